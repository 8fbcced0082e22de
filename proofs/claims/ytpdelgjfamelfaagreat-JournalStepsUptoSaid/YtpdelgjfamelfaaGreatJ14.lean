/- The calls by which a base is laid: what they do; the four closures. -/
import Derived.Test.YtpdelgjfamelfaaGreatJ13
namespace Go.Proofs.YtpdelgjfamelfaaGreat
open Go.RowKit Go.Lib Go.Vfs Go.Par Go.Shelf
set_option linter.unusedVariables false
set_option linter.unusedSimpArgs false

def stepSt (b : List UInt8) : Nat → St → St × Int
  | 0, st => stAppend st nNext b
  | 1, st => stSync st nNext
  | 2, st => stRename st nNext nBase
  | _, st => stTruncate st nLog 0
def laySteps (b : List UInt8) : List Nat → St → St × Int
  | [], st => (st, 0)
  | k :: ks, st => if (stepSt b k st).2 = 0 then laySteps b ks (stepSt b k st).1 else stepSt b k st
theorem laySteps_snoc {b : List UInt8} {k : Nat} : ∀ {ks : List Nat} {st st' : St}, laySteps b ks st = (st', 0) → laySteps b (ks ++ [k]) st = stepSt b k st'
  | [], st, st', h => by
    have : st = st' := congrArg Prod.fst h
    subst this
    simp only [List.nil_append, laySteps]
    split
    · rename_i h2; exact Prod.ext rfl h2.symm
    · rfl
  | j :: ks, st, st', h => by
    rw [List.cons_append]
    simp only [laySteps] at h ⊢
    split at h
    · rename_i h2
      rw [if_pos h2]
      exact laySteps_snoc h
    · rename_i h2
      exact absurd (congrArg Prod.snd h) h2
theorem laySteps_front {b : List UInt8} {ks ms : List Nat} (hp : ks <+: ms) : ∀ {st : St}, (laySteps b ks st).2 ≠ 0 → laySteps b ms st = laySteps b ks st := by
  obtain ⟨r, rfl⟩ := hp
  induction ks with
  | nil => intro st h; exact absurd rfl h
  | cons k ks ih =>
    intro st h
    simp only [List.cons_append, laySteps] at h ⊢
    split
    · rename_i h2
      rw [if_pos h2] at h
      exact ih h
    · rfl
theorem Calm.do {st : St} {fs : List File} {k d : Nat} (h : Calm st.files k d) (h2 : Calm fs k d) : Calm (doSt st fs).1.files k d := by
  unfold doSt
  split
  · exact h
  · exact h2
theorem find_in {st : St} {s : List UInt8} {f : File} (h : stFind st s = .ok f) : f ∈ st.files ∧ f.name = s ∧ nameB s = true := by
  unfold stFind at h
  split at h
  · rename_i hn
    split at h
    · rename_i g hg
      cases h
      exact ⟨(findL_some hg).1, (findL_some hg).2, hn⟩
    · cases h
  · cases h
theorem step_calm {st : St} {b : List UInt8} {k d : Nat} (h : Calm st.files k d) : ∀ i, Calm (stepSt b i st).1.files (k + 1) (d + b.length)
  | 0 => by
    show Calm (stAppend st nNext b).1.files _ _
    unfold stAppend
    rw [if_pos (by decide)]
    exact (h.mono (by omega) (by omega)).do (h.app (by decide))
  | 1 => by
    show Calm (stSync st nNext).1.files _ _
    unfold stSync
    split
    · exact h.mono (by omega) (by omega)
    · rename_i f hf
      obtain ⟨f1, f2, f3⟩ := find_in hf
      exact (h.mono (by omega) (by omega)).do ((h.mono (Nat.le_refl _) (Nat.le_add_right d b.length)).withL (h.names f f1) (by have := h.data f f1; simp only; omega) (Nat.le_refl _))
  | 2 => by
    show Calm (stRename st nNext nBase).1.files _ _
    unfold stRename
    rw [if_pos (by decide)]
    split
    · exact h.mono (by omega) (by omega)
    · rename_i f hf
      obtain ⟨f1, f2, f3⟩ := find_in hf
      exact (h.mono (by omega) (by omega)).do (((h.mono (Nat.le_refl _) (Nat.le_add_right d b.length)).dropL nNext).withL (by show nameB nBase = true; decide) (by have := h.data f f1; simp only; omega) (h.safe f f1))
  | n + 3 => by
    show Calm (stTruncate st nLog 0).1.files _ _
    unfold stTruncate
    split
    · exact h.mono (by omega) (by omega)
    · rename_i f hf
      obtain ⟨f1, f2, f3⟩ := find_in hf
      split
      · exact h.mono (by omega) (by omega)
      · exact (h.mono (by omega) (by omega)).do ((h.mono (Nat.le_refl _) (Nat.le_add_right d b.length)).withL (h.names f f1) (by simp) (by simp))
theorem do_power {st : St} {fs : List File} (h : st.power ≤ 9223372036854775807) : (doSt st fs).1.power ≤ 9223372036854775807 := by
  unfold doSt
  split
  · exact h
  · show dec st.power ≤ _; unfold dec; split <;> omega
theorem step_power {st : St} {b : List UInt8} (h : st.power ≤ 9223372036854775807) : ∀ i, (stepSt b i st).1.power ≤ 9223372036854775807
  | 0 => by
    show (stAppend st nNext b).1.power ≤ _
    unfold stAppend; split
    · exact do_power h
    · exact h
  | 1 => by
    show (stSync st nNext).1.power ≤ _
    unfold stSync; split
    · exact h
    · exact do_power h
  | 2 => by
    show (stRename st nNext nBase).1.power ≤ _
    unfold stRename; split
    · split
      · exact h
      · exact do_power h
    · exact h
  | n + 3 => by
    show (stTruncate st nLog 0).1.power ≤ _
    unfold stTruncate; split
    · exact h
    · split
      · exact h
      · exact do_power h
theorem has_with {x : File} {fs : List File} {s : List UInt8} (h : x.name ≠ s) : hasF (withL File.name x fs) s = hasF fs s := by rw [hasF_find, hasF_find, findL_withL_ne h]
theorem has_drop {t : List UInt8} {fs : List File} {s : List UInt8} (h : s ≠ t) : hasF (dropL File.name t fs) s = hasF fs s := by rw [hasF_find, hasF_find, findL_dropL_ne h]
theorem has_do {st : St} {fs : List File} {s : List UInt8} (h : hasF fs s = hasF st.files s) : hasF (doSt st fs).1.files s = hasF st.files s := by
  unfold doSt
  split
  · rfl
  · exact h
theorem step_has {st : St} {b : List UInt8} : ∀ i, hasF (stepSt b i st).1.files nLog = hasF st.files nLog
  | 0 => by
    show hasF (stAppend st nNext b).1.files nLog = _
    unfold stAppend
    rw [if_pos (by decide)]
    refine has_do ?_
    unfold appF
    refine has_with ?_
    split <;> (show nNext ≠ nLog; decide)
  | 1 => by
    show hasF (stSync st nNext).1.files nLog = _
    unfold stSync
    split
    · rfl
    · rename_i f hf
      exact has_do (has_with (by show f.name ≠ nLog; rw [(find_in hf).2.1]; decide))
  | 2 => by
    show hasF (stRename st nNext nBase).1.files nLog = _
    unfold stRename
    rw [if_pos (by decide)]
    split
    · rfl
    · rename_i f hf
      exact has_do ((has_with (by show nBase ≠ nLog; decide)).trans (has_drop (by decide)))
  | n + 3 => by
    show hasF (stTruncate st nLog 0).1.files nLog = _
    unfold stTruncate
    split
    · rfl
    · rename_i f hf
      split
      · rfl
      · refine has_do ?_
        obtain ⟨f1, f2, f3⟩ := find_in hf
        have e1 : hasF st.files nLog = true := by
          unfold hasF
          simp only [decide_eq_true_eq]
          rw [← f2]
          exact List.mem_map_of_mem f1
        rw [e1, hasF_find, ← f2]
        have := findL_withL_self (key := File.name) ⟨f.name, f.data.take (0 : Int).toNat, min f.safe (0 : Int).toNat⟩ st.files
        simp only at this ⊢
        rw [this]
        rfl

/- the kinds of the blocks of a file system. -/
theorem Fsy.kind {w : World} {p : Nat} {st : St} {F : Nat → Prop} (h : Fsy w p st F) : ∀ k, F k → (∃ cs t fz, w.heap[k]? = some (Obj.cells cs t fz) ∧ (t = 74 ∨ t = 79 ∨ t = 5)) ∨ ∃ es clock, w.heap[k]? = some (Obj.map es clock) := by
  obtain ⟨xs, mb, -, hat, rfl⟩ := h
  rintro k (rfl | rfl | ⟨x, hx, hk⟩)
  · exact .inl ⟨_, _, _, hat.head, .inl rfl⟩
  · obtain ⟨es, clock, hm, -⟩ := hat.map
    exact .inr ⟨es, clock, hm⟩
  · have hf := hat.files x hx
    unfold blocksR at hk
    rcases List.mem_cons.1 hk with rfl | hk
    · exact .inl ⟨_, _, _, hf.head, .inr (.inl rfl)⟩
    · rcases hf.row.2 with ⟨e, -⟩ | ⟨g, cap, cur, e, _, hh, _⟩
      · rw [e] at hk; simp [Value.ownBlock] at hk
      · rw [e] at hk
        have : k = g := by simpa [Value.ownBlock] using hk
        subst this
        exact .inl ⟨_, _, _, hh, .inr (.inr rfl)⟩
theorem Kept.ty {w w' : World} {p : Nat} {st : St} {F : Nat → Prop} (h : Kept F w w') (hf : Fsy w p st F) : TyK w w' := ⟨h.size, fun k cs t fz hk ht => by
  refine h.block k (lt_of_block hk) fun hF => ?_
  rcases hf.kind k hF with ⟨cs', t', fz', h1, h2⟩ | ⟨es, c, h1⟩
  · rw [hk] at h1
    cases h1
    rcases ht with h3 | h3 | h3 | h3 <;> rcases h2 with h4 | h4 | h4 <;> (rw [h3] at h4; exact absurd h4 (by decide))
  · rw [hk] at h1; cases h1⟩
theorem Fsy.put {w : World} {p : Nat} {st : St} {F : Nat → Prop} (h : Fsy w p st F) {l : Nat} {o o' : Obj} (hl : w.heap[l]? = some o) (hc : o.isCells = false) (hw : o.isWalk = false) : Fsy (w.putObj l o') p st F := h.keep fun k hk => by
  refine World.putObj_heap_other fun e => ?_
  subst e
  rcases h.kind k hk with ⟨cs', t', fz', h1, h2⟩ | ⟨es, c, h1⟩
  · rw [hl] at h1; cases h1; cases hc
  · rw [hl] at h1; cases h1; cases hw
theorem Kept.books {w w' : World} {p : Nat} {st : St} {F : Nat → Prop} (h : Kept F w w') (hf : Fsy w p st F) (q : Nat) : KeepB q w w' := fun r hb => by
  have no : ∀ (k : Nat) (o : Obj), w.heap[k]? = some o → o.isCells = false → o.isWalk = false → w'.heap[k]? = some o := fun k o hk hc hw => by
    refine (h.block k (lt_of_block hk) fun hF => ?_).trans hk
    rcases hf.kind k hF with ⟨cs', t', fz', h1, h2⟩ | ⟨es, c, h1⟩
    · rw [hk] at h1; cases h1; cases hc
    · rw [hk] at h1; cases h1; cases hw
  exact ⟨no _ _ hb.loop rfl rfl, no _ _ hb.calls rfl rfl⟩

set_option maxRecDepth 20000 in
set_option maxHeartbeats 1000000 in
theorem step1_any (W : World) (p b4 bB n c : Nat) (A : Option Addr) (st : St) (F : Nat → Prop) (hf : Fsy W p st F) (b : List UInt8) (hn : b.length = n) (hb : SegS (fun k => k < W.heap.size ∧ ¬ F k) W (.slice A n c) (byteCells b)) (hm : Modest st b.length)
    (h4 : CS p (0, b4) W) (hB : W.heap[bB]? = some (.cells #[.slice A n c] 22 (0, 0))) :
    Calls Tryz.prog 82 #[.pointer (some ⟨b4, 0, none⟩), .pointer (some ⟨bB, 0, none⟩)] W fun e w' => ∃ F', e = .returned (.int .i64 (stepSt b 0 st).2) ∧ Fsy w' p (stepSt b 0 st).1 F' ∧ Kept F W w' ∧ Grows W F F' := by
  obtain ⟨c0, -⟩ := one_cellJ h4
  obtain ⟨c1, -⟩ := one_cellJ hB
  have hF := Lib.hid hf; have HB := Lib.hid hb; have HM := Lib.hid hm
  have hfl := hf.lt
  have HFL := Lib.hid hfl
  have HN := Lib.hid hn
  clear hf hb hm h4 hB hfl hn
  go_enter Tryz.func82, Tryz.ntmps82
  go_wp2_with fail
  have hb3 : Below W.heap.size W (W.alloc (.cells #[.slice A n c] 22)) := box_below W _
  have hrows : RowsAt (Out (W.alloc (.cells #[.slice A n c] 22)) F) (W.alloc (.cells #[.slice A n c] 22)) (.slice (some ⟨W.heap.size, 0, none⟩) 1 1) [b] := by
    refine ⟨[.slice A n c], rfl, ⟨some ⟨W.heap.size, 0, none⟩, 1, rfl, by simp, by simp [maxLen], fun _ => ⟨W.heap.size, 0, rfl, ⟨by simp, fun hf => by have := HFL.out _ hf; omega⟩, fun i hi => ?_⟩⟩, fun i hi => ?_⟩
    · have : i = 0 := by simp at hi; omega
      subst this
      simp
    · have : i = 0 := by simp at hi; omega
      subst this
      exact HB.out.keep fun k hk => ⟨⟨by simp; omega, hk.2⟩, hb3.block k hk.1⟩
  have hap := append_any _ p st F (hF.out.keep fun k hk => hb3.block k (HFL.out k hk)) ⟨#[110, 101, 120, 116]⟩ (by decide) _ _ hrows (by
    rw [show [b].flatten.length = b.length by simp]
    exact HM.out)
  rw [show (ByteArray.mk #[110, 101, 120, 116]).data.toList = nNext from rfl, show [b].flatten = b by simp] at hap
  refine hap.mono ?_
  rintro e w4 ⟨F', rfl, h1, h2, h3⟩
  have HR := Lib.hid (And.intro h1 (And.intro ((Kept.of_below (F := F) hb3).trans h2 (Grows.refl _ _)) (show Grows W F F' from fun k hk => (h3 k hk).imp id (fun h => by have := hb3.size; omega))))
  clear hap hrows hb3 h1 h2 h3
  go_wp2
  go_ret
  exact ⟨F', rfl, HR.out.1, HR.out.2.1, HR.out.2.2⟩
set_option maxRecDepth 20000 in
set_option maxHeartbeats 1000000 in
theorem step2_any (W : World) (p b4 : Nat) (st : St) (F : Nat → Prop) (hf : Fsy W p st F) (b : List UInt8) (hpw : st.power ≤ 9223372036854775807) (h4 : CS p (1, b4) W) :
    Calls Tryz.prog 83 #[.pointer (some ⟨b4, 0, none⟩)] W fun e w' => ∃ F', e = .returned (.int .i64 (stepSt b 1 st).2) ∧ Fsy w' p (stepSt b 1 st).1 F' ∧ Kept F W w' ∧ Grows W F F' := by
  obtain ⟨c0, -⟩ := one_cellJ h4
  have HC := Lib.hid (sync_any W p st F hf ⟨#[110, 101, 120, 116]⟩ (by decide) hpw)
  clear hf h4 hpw
  go_enter Tryz.func83, Tryz.ntmps83
  go_wp2_with fail
  refine HC.out.mono ?_
  rintro e w4 ⟨F', rfl, h1, h2, h3⟩
  have HR := Lib.hid (And.intro h1 (And.intro h2 h3))
  clear h1 h2 h3
  go_wp2
  go_ret
  exact ⟨F', rfl, HR.out.1, HR.out.2.1, HR.out.2.2⟩
set_option maxRecDepth 20000 in
set_option maxHeartbeats 1000000 in
theorem step3_any (W : World) (p b4 : Nat) (st : St) (F : Nat → Prop) (hf : Fsy W p st F) (b : List UInt8) (hpw : st.power ≤ 9223372036854775807) (hfl : st.files.length < 2147483648) (h4 : CS p (2, b4) W) :
    Calls Tryz.prog 84 #[.pointer (some ⟨b4, 0, none⟩)] W fun e w' => ∃ F', e = .returned (.int .i64 (stepSt b 2 st).2) ∧ Fsy w' p (stepSt b 2 st).1 F' ∧ Kept F W w' ∧ Grows W F F' := by
  obtain ⟨c0, -⟩ := one_cellJ h4
  have HC := Lib.hid (rename_any W p st F hf ⟨#[110, 101, 120, 116]⟩ ⟨#[98, 97, 115, 101]⟩ (by decide) (by decide) hpw hfl)
  clear hf h4 hpw hfl
  go_enter Tryz.func84, Tryz.ntmps84
  go_wp2_with fail
  refine HC.out.mono ?_
  rintro e w4 ⟨F', rfl, h1, h2, h3⟩
  have HR := Lib.hid (And.intro h1 (And.intro h2 h3))
  clear h1 h2 h3
  go_wp2
  go_ret
  exact ⟨F', rfl, HR.out.1, HR.out.2.1, HR.out.2.2⟩
set_option maxRecDepth 20000 in
set_option maxHeartbeats 1000000 in
theorem step4_any (W : World) (p b4 n : Nat) (st : St) (F : Nat → Prop) (hf : Fsy W p st F) (b : List UInt8) (hpw : st.power ≤ 9223372036854775807) (h4 : CS p (n + 3, b4) W) :
    Calls Tryz.prog 86 #[.pointer (some ⟨b4, 0, none⟩)] W fun e w' => ∃ F', e = .returned (.int .i64 (stepSt b (n + 3) st).2) ∧ Fsy w' p (stepSt b (n + 3) st).1 F' ∧ Kept F W w' ∧ Grows W F F' := by
  obtain ⟨c0, -⟩ := one_cellJ h4
  have HC := Lib.hid (truncate_any W p st F hf ⟨#[108, 111, 103]⟩ (by decide) hpw 0)
  clear hf h4 hpw
  go_enter Tryz.func86, Tryz.ntmps86
  go_wp2_with fail
  refine HC.out.mono ?_
  rintro e w4 ⟨F', rfl, h1, h2, h3⟩
  have HR := Lib.hid (And.intro h1 (And.intro h2 h3))
  clear h1 h2 h3
  go_wp2
  go_ret
  exact ⟨F', rfl, HR.out.1, HR.out.2.1, HR.out.2.2⟩
set_option maxRecDepth 20000 in
theorem steps_any (w : World) (pj n c : Nat) (A : Option Addr) : Calls Tryz.prog 65 #[.pointer (some ⟨pj, 0, none⟩), .slice A n c] w fun e w' => e = .returned (.func (.func 81) #[] #[.pointer (some ⟨w.heap.size, 0, none⟩), .pointer (some ⟨w.heap.size + 1, 0, none⟩)]) ∧
    w' = (w.alloc (.cells #[.pointer (some ⟨pj, 0, none⟩)] 41)).alloc (.cells #[.slice A n c] 22) := by
  go_enter Tryz.func65, Tryz.ntmps65
  go_wp2
  go_ret
  exact ⟨rfl, rfl⟩
end Go.Proofs.YtpdelgjfamelfaaGreat
