/- Plain and contracts: laying a base is one stroke. -/
import Derived.Test.YtpdelgjfamelfaaJ24
namespace Go.Proofs.Ytpdelgjfamelfaa
open Go.RowKit Go.Lib Go.Vfs Go.Par Go.Shelf
set_option linter.unusedVariables false
set_option linter.unusedSimpArgs false

/-- a base's file, synced. -/
def bsOf (g : Nat) (base : List (List UInt8)) : Option File := if g = 0 then none else some ⟨nBase, encR g (be4 base.length :: base), (encR g (be4 base.length :: base)).length⟩
/-- a log's file with so many safe bytes; it may be missing where no record is in it. -/
def LgOk (g : Nat) (log : List (List UInt8)) (s : Nat) (lg : Option File) : Prop := (lg = none ∧ log = []) ∨ lg = some ⟨nLog, encR g log, s⟩
theorem bsOf_ok {g : Nat} {base : List (List UInt8)} (hg : g < 4294967296) (hp : ∀ p ∈ base, p.length ≤ 65536) (hl : base.length < 4294967296) (h0 : g = 0 → base = []) : baseOk (bsOf g base) = some (g, base) := by
  unfold bsOf
  by_cases h : g = 0
  · rw [if_pos h, h0 h, h]; rfl
  · rw [if_neg h]; exact baseOf_enc hg hp hl
theorem bsOf_crash (ks : List Int) (j g : Nat) (base : List (List UInt8)) : (bsOf g base).map (crashF ks j) = bsOf g base := by
  unfold bsOf
  split
  · rfl
  · rw [Option.map_some, crash_synced]
theorem LgOk.crash {g : Nat} {log : List (List UInt8)} {lg : Option File} (h : LgOk g log (encR g log).length lg) (ks : List Int) (j : Nat) : lg.map (crashF ks j) = lg := by
  rcases h with ⟨rfl, -⟩ | rfl
  · rfl
  · rw [Option.map_some, crash_synced]
theorem LgOk.recs {g s : Nat} {log : List (List UInt8)} {lg : Option File} (h : LgOk g log s lg) (hg : g < 4294967296) (hp : ∀ p ∈ log, p.length ≤ 65536) : logRecs lg g = log ∧ logBad lg g = false := by
  rcases h with ⟨rfl, rfl⟩ | rfl
  · exact ⟨rfl, rfl⟩
  · have h := frs_enc (b := encR g log) (q := []) hg (List.append_nil _).symm hp (frAt_end (Nat.le_refl _))
    unfold logRecs logBad
    simp only
    rw [sameGen_all (gens_frL h), pays_frL h, endOf_frL h]
    simp
theorem LgOk.other {g s g' : Nat} {log : List (List UInt8)} {lg : Option File} (h : LgOk g log s lg) (hg : g < 4294967296) (hp : ∀ p ∈ log, p.length ≤ 65536) (hne : g ≠ g') : logRecs lg g' = [] := by
  rcases h with ⟨rfl, rfl⟩ | rfl
  · rfl
  · have h := frs_enc (b := encR g log) (q := []) hg (List.append_nil _).symm hp (frAt_end (Nat.le_refl _))
    unfold logRecs
    simp only
    rw [sameGen_other h hne]
    rfl
theorem cutLog_recs (lg : Option File) (g : Nat) : logRecs (cutLog lg) g = [] := by
  cases lg with
  | none => rfl
  | some f => rfl
theorem cutLog_crash (lg : Option File) (ks : List Int) (j : Nat) : (cutLog lg).map (crashF ks j) = cutLog lg := by
  cases lg with
  | none => rfl
  | some f =>
    show some (crashF ks j ⟨nLog, [], 0⟩) = some ⟨nLog, [], 0⟩
    have := crash_synced ks j nLog []
    rw [show ([] : List UInt8).length = 0 from rfl] at this
    rw [this]
/-- what is read behind a crash of these three files. -/
theorem V3.again {fs : List File} {nx bs lg : Option File} (h : V3 fs nx bs lg) {g : Nat} {ps ls : List (List UInt8)} (ks : List Int) (hb : baseOk bs = some (g, ps)) (hbc : ∀ j, bs.map (crashF ks j) = bs) (hlc : ∀ j, lg.map (crashF ks j) = lg) (hr : logRecs lg g = ls) : ∃ st', openSt ⟨-1, crashL ks 0 fs⟩ = (st', .ok (g, ps, ls)) := by
  obtain ⟨i, j, k, hc⟩ := h.crash ks
  rw [hbc, hlc] at hc
  obtain ⟨fs', e, -⟩ := hc.opn hb
  exact ⟨_, by rw [e, hr]⟩
theorem dec_pos {q : Nat} (h : q ≠ 0) : dec (q : Int) = ((q - 1 : Nat) : Int) := by unfold dec; rw [if_pos (by omega)]; omega
/-- LAYING A BASE IS ONE STROKE. -/
theorem lays_law {fs : List File} {g : Nat} {base log xb : List (List UInt8)} {lg : Option File} (q : Nat) (h : V3 fs none (bsOf g base) lg) (hl : LgOk g log (encR g log).length lg) (hg : g + 1 < 4294967296) (h0 : g = 0 → base = [])
    (hp1 : ∀ p ∈ base, p.length ≤ 65536) (hp2 : ∀ p ∈ log, p.length ≤ 65536) (hp3 : ∀ p ∈ xb, p.length ≤ 65536) (hb1 : base.length < 4294967296) (hb3 : xb.length < 4294967296) (ks : List Int) :
    ∃ st er, laySteps (encR (g + 1) (be4 xb.length :: xb)) (stepsOf (hasF fs nLog)) ⟨(q : Int), fs⟩ = (st, er) ∧ ((er = 0 ∧ ∃ st' g', openSt ⟨-1, crashL ks 0 st.files⟩ = (st', .ok (g', xb, []))) ∨
      (er = 13 ∧ ∃ st' g' ps ls, openSt ⟨-1, crashL ks 0 st.files⟩ = (st', .ok (g', ps, ls)) ∧ (ps ++ ls = base ++ log ∨ ps ++ ls = xb))) := by
  obtain ⟨b, hbe⟩ : ∃ b, b = encR (g + 1) (be4 xb.length :: xb) := ⟨_, rfl⟩
  rw [← hbe]
  have old : ∀ {fs' : List File} {nx : Option File}, V3 fs' nx (bsOf g base) lg → ∃ st' g' ps ls, openSt ⟨-1, crashL ks 0 fs'⟩ = (st', .ok (g', ps, ls)) ∧ (ps ++ ls = base ++ log ∨ ps ++ ls = xb) := fun h' => by
    obtain ⟨st', e⟩ := h'.again ks (bsOf_ok (by omega) hp1 hb1 h0) (fun j => bsOf_crash ks j g base) (fun j => hl.crash ks j) (hl.recs (by omega) hp2).1
    exact ⟨st', g, base, log, e, .inl rfl⟩
  have new : ∀ {fs' : List File} {lg' : Option File}, V3 fs' none (some ⟨nBase, b, b.length⟩) lg' → (∀ j, lg'.map (crashF ks j) = lg') → logRecs lg' (g + 1) = [] → ∃ st', openSt ⟨-1, crashL ks 0 fs'⟩ = (st', .ok (g + 1, xb, [])) := fun h' hc hr => by
    refine h'.again ks (g := g + 1) (ps := xb) ?_ (fun j => by rw [Option.map_some, crash_synced]) hc hr
    show baseOf b = _
    rw [hbe]
    exact baseOf_enc (by omega) hp3 hb3
  have e0 := h.step0 (pw := (q : Int)) b
  have h1 := h.appN b
  rw [h.hasL]
  by_cases q0 : q = 0
  · subst q0
    rw [show ((0 : Nat) : Int) = 0 from rfl, do_zero] at e0
    refine ⟨⟨0, fs⟩, 13, ?_, .inr ⟨rfl, old h⟩⟩
    cases lg <;> simp [stepsOf, laySteps, e0]
  rw [do_on (by omega), dec_pos q0] at e0
  obtain ⟨f2, e1, h2⟩ := h1.step1 (pw := ((q - 1 : Nat) : Int)) rfl b
  by_cases q1 : q - 1 = 0
  · rw [q1] at e0 e1
    rw [show ((0 : Nat) : Int) = 0 from rfl] at e0 e1
    rw [do_zero] at e1
    refine ⟨⟨0, appF nNext b fs⟩, 13, ?_, .inr ⟨rfl, old h1⟩⟩
    cases lg <;> simp [stepsOf, laySteps, e0, e1]
  rw [do_on (by omega), dec_pos q1] at e1
  obtain ⟨f3, e2, h3⟩ := h2.step2 (pw := ((q - 1 - 1 : Nat) : Int)) rfl b
  by_cases q2 : q - 1 - 1 = 0
  · rw [q2] at e1 e2
    rw [show ((0 : Nat) : Int) = 0 from rfl] at e1 e2
    rw [do_zero] at e2
    refine ⟨⟨0, f2⟩, 13, ?_, .inr ⟨rfl, old h2⟩⟩
    cases lg <;> simp [stepsOf, laySteps, e0, e1, e2]
  rw [do_on (by omega), dec_pos q2] at e2
  have h3' : V3 f3 none (some ⟨nBase, b, b.length⟩) lg := by simpa [addF] using h3
  cases lg with
  | none =>
    obtain ⟨st', e⟩ := new h3' (fun j => rfl) rfl
    exact ⟨⟨((q - 1 - 1 - 1 : Nat) : Int), f3⟩, 0, by simp [stepsOf, laySteps, e0, e1, e2], .inl ⟨rfl, st', g + 1, e⟩⟩
  | some f =>
    obtain ⟨f4, e3, h4⟩ := h3.step3 (pw := ((q - 1 - 1 - 1 : Nat) : Int)) rfl b
    by_cases q3 : q - 1 - 1 - 1 = 0
    · rw [q3] at e2 e3
      rw [show ((0 : Nat) : Int) = 0 from rfl] at e2 e3
      rw [do_zero] at e3
      obtain ⟨st', e⟩ := new h3' (fun j => hl.crash ks j) (hl.other (by omega) hp2 (by omega))
      exact ⟨⟨0, f3⟩, 13, by simp [stepsOf, laySteps, e0, e1, e2, e3], .inr ⟨rfl, st', g + 1, xb, [], e, .inr (List.append_nil _)⟩⟩
    · rw [do_on (by omega)] at e3
      have h4' : V3 f4 none (some ⟨nBase, b, b.length⟩) (cutLog (some f)) := by simpa [addF, cutLog] using h4
      obtain ⟨st', e⟩ := new h4' (fun j => cutLog_crash _ ks j) (cutLog_recs _ _)
      exact ⟨⟨dec ((q - 1 - 1 - 1 : Nat) : Int), f4⟩, 0, by simp [stepsOf, laySteps, e0, e1, e2, e3], .inl ⟨rfl, st', g + 1, e⟩⟩

/-- a journal as JournalLays makes it. -/
def QI (W wr : World) (pj p g : Nat) (base log : List (List UInt8)) (s c d : Nat) : Prop := ∃ fs lg F G, JH W.heap.size W wr pj p ⟨-1, fs⟩ g base log F G ∧ V3 fs none (bsOf g base) lg ∧ LgOk g log s lg ∧ (lg = none → s = 0) ∧ Calm fs c d
section
variable {W wr w' : World} {pj p g s c d : Nat} {base log : List (List UInt8)}
theorem QI.below (h : QI W wr pj p g base log s c d) : Below W.heap.size W wr := by
  obtain ⟨fs, lg, F, G, h1, -⟩ := h
  exact h1.below
theorem QI.append (h : QI W wr pj p g base log 0 c d) {w2 : World} (hb : Below wr.heap.size wr w2) {u : Value} {L : List UInt8} (hu : Par.Own w2 wr.heap.size 5 u (byteCells L)) (hL : L.length ≤ 5000) (hc : c ≤ 1000) (hd : d ≤ 1000000) (hx : log.length ≤ 1000) :
    Calls Try.prog 41 #[.pointer (some ⟨pj, 0, none⟩), u] w2 fun e w' => e = .returned (.int .i64 0) ∧ Hid (QI W w' pj p g base (log ++ [L]) 0 (c + 1) (d + 6000)) := by
  obtain ⟨fs, lg, F, G, h1, h2, h3, h5, h6⟩ := h
  have h4 := h1.go (Nat.le_refl _) hb
  have hlt := h1.lt
  have hsg : SegS (fun j => j < w2.heap.size ∧ ¬ F j) w2 u (byteCells L) := (own_seg hu).keep fun j hj => ⟨⟨(hu.lt j hj).2, fun hf => by have := hlt j (.inl hf); have := (hu.lt j hj).1; omega⟩, rfl⟩
  refine (jappend_any h4.jf u L hsg (by omega) (h6.modest (st := ⟨-1, fs⟩) (show (-1 : Int) ≤ 9223372036854775807 by decide) (by omega) (by omega)) (by omega)).mono ?_
  rw [jAppend_on]
  rintro e w' ⟨rfl, hp⟩
  obtain ⟨F', G', h7, -, -, -⟩ := h4.op (Nat.le_refl _) hp
  have hv := h2.appL (frameB g L)
  refine ⟨rfl, Lib.hid ⟨_, _, F', G', h7, hv, .inr ?_, fun _ => rfl, (h6.app (s := nLog) (by decide)).mono (Nat.le_refl _) (by rw [frameB_length]; omega)⟩⟩
  rcases h3 with ⟨rfl, rfl⟩ | rfl
  · simp [addF, encR]
  · simp [addF, encR_snoc]
/-- Lay of all records, as the law does it once. -/
theorem QI.lay (h : QI W wr pj p 0 [] log 0 c d) {w2 : World} {u : Value} {us : List Value} (hx : RowedX wr log log.length u us w2) (hlog : ∀ l ∈ log, l.length ≤ 5000) (hll : log.length ≤ 60) (hE : (encR 1 (be4 log.length :: log)).length ≤ 6000) (hc : c ≤ 900) (hd : d ≤ 900000) :
    Calls Try.prog 44 #[.pointer (some ⟨pj, 0, none⟩), u] w2 fun e w' => e = .returned (.int .i64 0) ∧ Hid (QI W w' pj p 1 log [] 0 (c + 4) (d + 24000)) := by
  obtain ⟨fs, lg, F, G, h1, h2, h3, h5, h6⟩ := h
  have h4 := h1.go (Nat.le_refl _) hx.below
  have hrows : RowsAt (fun k => k < w2.heap.size ∧ ¬ F k ∧ ¬ G k) w2 u log := hx.toRowed.rows.keep fun b hb => ⟨⟨hb.2, fun hf => by have := h1.lt b (.inl hf); omega, fun hg => by have := h1.lt b (.inr hg); omega⟩, rfl⟩
  refine (jlay_any h4.jf u log hrows (fun l hl => by have := hlog l hl; omega) (by omega) (by omega) (by simpa using (show (encR 1 (be4 log.length :: log)).length ≤ 900000 by omega)) (kf := c) (d := d) h6 (by omega) (by omega) (show (-1 : Int) ≤ 9223372036854775807 by decide)).mono ?_
  rintro e w' ⟨r, hr, rfl, hp⟩
  obtain ⟨fs', hl, hv3⟩ := h2.lay (encR 1 (be4 log.length :: log))
  have hcm := lay_calm (b := encR 1 (be4 log.length :: log)) (stepsOf (hasF fs nLog)) (st := ⟨-1, fs⟩) h6
  rw [hl] at hcm
  have hr' : r = (⟨-1, fs'⟩, 0) := by rw [← hr]; exact hl
  subst hr'
  simp only at hp
  obtain ⟨F', G', h7, -, -, -⟩ := h4.op (Nat.le_refl _) hp
  have hks : (stepsOf (hasF fs nLog)).length ≤ 4 := by cases hasF fs nLog <;> simp [stepsOf]
  have hmul : (stepsOf (hasF fs nLog)).length * (encR 1 (be4 log.length :: log)).length ≤ 4 * 6000 := Nat.mul_le_mul hks hE
  refine ⟨rfl, Lib.hid ⟨fs', cutLog lg, F', G', by simpa using h7, hv3, ?_, fun _ => rfl, hcm.mono (by omega) (by omega)⟩⟩
  cases lg with
  | none => exact .inl ⟨rfl, rfl⟩
  | some f => exact .inr (by simp [cutLog, encR])
theorem QI.sync (h : QI W wr pj p g base log 0 c d) (hc : c ≤ 1000) : Calls Try.prog 45 #[.pointer (some ⟨pj, 0, none⟩)] wr fun e w' => e = .returned (.int .i64 0) ∧ Hid (∃ fs lg F G, JH W.heap.size W w' pj p ⟨-1, fs⟩ g base log F G ∧ V3 fs none (bsOf g base) lg ∧ LgOk g log (encR g log).length lg ∧ Calm fs (c + 1) d) := by
  obtain ⟨fs, lg, F, G, h1, h2, h3, h5, h6⟩ := h
  refine (jsync_any h1.jf (by have := h6.files; simp only; omega) h6.short (show (-1 : Int) ≤ 9223372036854775807 by decide)).mono ?_
  rintro e w' ⟨rfl, hp⟩
  rcases h3 with ⟨rfl, rfl⟩ | rfl
  · have e1 : jSync ⟨-1, fs⟩ = (⟨-1, fs⟩, 0) := h2.sync0
    rw [e1] at hp ⊢
    obtain ⟨F', G', h7, -, -, -⟩ := h1.op (Nat.le_refl _) hp
    exact ⟨rfl, Lib.hid ⟨fs, none, F', G', h7, h2, .inl ⟨rfl, rfl⟩, h6.mono (by omega) (Nat.le_refl _)⟩⟩
  · obtain ⟨fs', e1, h8⟩ := h2.sync (pw := -1) rfl
    rw [do_on (by decide), dec_neg] at e1
    have hcl : Calm fs' (c + 1) d := by
      have e2 : fs' = (jSync ⟨-1, fs⟩).1.files := by rw [e1]
      rw [e2]
      unfold jSync
      split
      · exact (show Calm (stSync ⟨-1, fs⟩ nLog).1.files (c + 1) d by
          unfold stSync
          split
          · exact h6.mono (by omega) (Nat.le_refl _)
          · rename_i f hf
            obtain ⟨f1, f2, f3⟩ := find_in hf
            exact (h6.mono (by omega) (Nat.le_refl _)).do (h6.withL (h6.names f f1) (h6.data f f1) (Nat.le_refl _)))
      · exact h6.mono (by omega) (Nat.le_refl _)
    rw [e1] at hp ⊢
    obtain ⟨F', G', h7, -, -, -⟩ := h1.op (Nat.le_refl _) hp
    exact ⟨rfl, Lib.hid ⟨fs', _, F', G', h7, h8, .inr rfl, hcl⟩⟩
end
theorem JH.qi {W wr : World} {pj p : Nat} {F G : Nat → Prop} (h : JH W.heap.size W wr pj p ⟨-1, []⟩ 0 [] [] F G) : QI W wr pj p 0 [] [] 0 0 0 := ⟨[], none, F, G, h, V3.nil, .inl ⟨rfl, rfl⟩, fun _ => rfl, Calm.nil⟩
end Go.Proofs.Ytpdelgjfamelfaa
