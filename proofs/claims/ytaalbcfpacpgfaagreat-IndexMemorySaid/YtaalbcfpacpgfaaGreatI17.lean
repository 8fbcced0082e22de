/- Index: its state as the laws make it (the power lasts). -/
import Derived.Test.YtaalbcfpacpgfaaGreatIW
namespace Go.Proofs.YtaalbcfpacpgfaaGreat
open Go.RowKit Go.Lib Go.Vfs Go.Par Go.Typ Go.Shelf Go.Ix
set_option linter.unusedVariables false
set_option linter.unusedSimpArgs false

/-- does Publish take it? -/
def accB (e : En) : Bool := okE e && decide ((recE e).length ≤ 65536)
def lenA (e : En) : Nat := if accB e then (recE e).length else 0
def pubL (log : List (List UInt8)) (e : En) : List (List UInt8) := if accB e then log ++ [recE e] else log
def pubE (es : List En) (e : En) : List En := if accB e then withL keyE e es else es
def rmvL (log : List (List UInt8)) (es : List En) (s : ByteArray) : List (List UInt8) := if (findL keyE s.data.toList es).isSome then log ++ [remE s] else log
def rmvE (es : List En) (s : ByteArray) : List En := if (findL keyE s.data.toList es).isSome then dropL keyE s.data.toList es else es
theorem lenA_wt (e : En) : (lenA e : Int) ≤ 90 * wtE e := by
  have hp := wtE_pos e
  unfold lenA accB
  by_cases h : okE e = true
  · have := recE_wt h
    split <;> omega
  · rw [show okE e = false by simpa using h]
    simp
    omega
structure XK (base log : List (List UInt8)) (es : List En) : Prop where
  good : Ix.Good es
  rep : replay [] (base ++ log) = some es
  len : ∀ l ∈ base ++ log, l.length ≤ 65536
theorem XK.nil : XK [] [] [] := ⟨Good.nil, rfl, by simp⟩
theorem XK.app {base log : List (List UInt8)} {es es' : List En} (h : XK base log es) {l : List UInt8} (hl : l.length ≤ 65536) (hs : stepE es l = some es') : XK base (log ++ [l]) es' := by
  refine ⟨h.good.step hs, ?_, fun x hx => ?_⟩
  · rw [← List.append_assoc, replay_snoc h.rep]; exact hs
  · rw [← List.append_assoc] at hx
    rcases List.mem_append.1 hx with hx | hx
    · exact h.len x hx
    · simp at hx; subst hx; exact hl
theorem XK.pub {base log : List (List UInt8)} {es : List En} (h : XK base log es) (e : En) : XK base (pubL log e) (pubE es e) := by
  unfold pubL pubE
  by_cases ha : accB e = true
  · rw [if_pos ha, if_pos ha]
    have hb := ha
    unfold accB at hb
    simp only [Bool.and_eq_true, decide_eq_true_eq] at hb
    exact h.app hb.2 (stepE_put es hb.1)
  · rw [if_neg ha, if_neg ha]; exact h
theorem XK.rmv {base log : List (List UInt8)} {es : List En} (h : XK base log es) (s : ByteArray) : XK base (rmvL log es s) (rmvE es s) := by
  unfold rmvL rmvE
  cases hf : findL keyE s.data.toList es with
  | none => simpa using h
  | some e =>
    have he := h.good.ok e (findL_some hf).1
    have hk : keyE e = s.data.toList := (findL_some hf).2
    have hss : e.uri.size = s.size := by rw [← ba_len s, ← ba_len e.uri]; exact congrArg List.length hk
    have hu := okE_uri he
    have hl : (remE s).length = 2 + s.size := by have := ba_len s; unfold remE; simp only [List.length_append, this]; rfl
    simp only [Option.isSome_some, if_true]
    exact h.app (by omega) (stepE_del es (by omega) (by omega))
theorem XK.compact {base log : List (List UInt8)} {es : List En} (h : XK base log es) (hl : ∀ e ∈ es, (recE e).length ≤ 65536) : XK (es.map recE) [] es := by
  refine ⟨h.good, ?_, fun x hx => ?_⟩
  · rw [List.append_nil]
    have := replay_all es [] (by simpa using h.good)
    simpa using this
  · rw [List.append_nil] at hx
    obtain ⟨e, he, rfl⟩ := List.mem_map.1 hx
    exact hl e he

/-- an index as the laws make it: c operations, d bytes at most in a file, m bytes in all records of the entries. -/
structure XI (W wr : World) (px p g : Nat) (base log : List (List UInt8)) (es : List En) (s c d m : Nat) (F H S : Nat → Prop) (fs : List File) (lg : Option File) : Prop where
  xh : XH W.heap.size W wr px p ⟨-1, fs⟩ g base log es F H S
  v3 : V3 fs none (bsOf g base) lg
  lok : LgOk g log s lg
  lg0 : lg = none → s = 0
  calm : Calm fs c d
  xk : XK base log es
  logc : log.length ≤ c
  esc : es.length ≤ c
  sum : sumL (es.map recE) ≤ m
  each : ∀ e ∈ es, (recE e).length ≤ 65536
section
variable {W wr w' : World} {px p g s c d m : Nat} {base log : List (List UInt8)} {es : List En} {F H S : Nat → Prop} {fs : List File} {lg : Option File}
theorem XI.go (h : XI W wr px p g base log es s c d m F H S fs lg) (hb : Below wr.heap.size wr w') : XI W w' px p g base log es s c d m F H S fs lg :=
  ⟨h.xh.go (Nat.le_refl _) hb, h.v3, h.lok, h.lg0, h.calm, h.xk, h.logc, h.esc, h.sum, h.each⟩
theorem XI.mono (h : XI W wr px p g base log es s c d m F H S fs lg) {c' d' m' : Nat} (h1 : c ≤ c') (h2 : d ≤ d') (h3 : m ≤ m') : XI W wr px p g base log es s c' d' m' F H S fs lg :=
  ⟨h.xh, h.v3, h.lok, h.lg0, h.calm.mono h1 h2, h.xk, by have := h.logc; omega, by have := h.esc; omega, by have := h.sum; omega, h.each⟩
theorem XI.app (h : XI W wr px p g base log es s c d m F H S fs lg) {l : List UInt8} {es' : List En} {F' H' S' : Nat → Prop} {m' : Nat} (hx : XH W.heap.size W w' px p ⟨-1, appF nLog (frameB g l) fs⟩ g base (log ++ [l]) es' F' H' S') (hk : XK base (log ++ [l]) es') (he : es'.length ≤ c + 1) (hm : sumL (es'.map recE) ≤ m') (hea : ∀ e ∈ es', (recE e).length ≤ 65536) :
    XI W w' px p g base (log ++ [l]) es' s (c + 1) (d + 12 + l.length) m' F' H' S' (appF nLog (frameB g l) fs) (some (addF nLog lg (frameB g l))) := by
  refine ⟨hx, h.v3.appL _, .inr ?_, fun e => (by cases e), (h.calm.app (s := nLog) (by decide)).mono (Nat.le_refl _) (by rw [frameB_length]; omega), hk, by have := h.logc; simp; omega, he, hm, hea⟩
  rcases h.lok with ⟨h1, h2⟩ | h1
  · have h0 := h.lg0 h1
    subst h1 h2 h0
    simp [addF, encR]
  · subst h1
    simp [addF, encR_snoc]
end
theorem accB_len {e : En} (h : accB e = true) : okE e = true ∧ (recE e).length ≤ 65536 := by
  unfold accB at h
  simp only [Bool.and_eq_true, decide_eq_true_eq] at h
  exact h
theorem XI.publish {W wr w2 : World} {px p g s c d m : Nat} {base log : List (List UInt8)} {es : List En} {F H S : Nat → Prop} {fs : List File} {lg : Option File} (h : XI W wr px p g base log es s c d m F H S fs lg) (hb : Below wr.heap.size wr w2) (v : Value) (E : En) (hx : EntAt (fun k => wr.heap.size ≤ k ∧ k < w2.heap.size) w2 v E) (hc : c ≤ 900) (hd : d ≤ 2000000) :
    Calls Tryz.prog 21 #[.pointer (some ⟨px, 0, none⟩), v] w2 fun e w' => ∃ k : Int, e = .returned (.int .i64 k) ∧ (k = 0 ↔ accB E = true) ∧ Hid (∃ F' H' S' fs' lg', XI W w' px p g base (pubL log E) (pubE es E) s (c + 1) (d + 12 + lenA E) (m + lenA E) F' H' S' fs' lg' ∧ Kept (fun k => F k ∨ H k) w2 w' ∧ Grows w2 F F' ∧ Grows w2 H H' ∧ Grows w2 S S') := by
  have h2 := h.go hb
  have hlt := h.xh.xf.lt
  refine (publish_any w2 px p g ⟨-1, fs⟩ base log es F H S h2.xh.xf v E (hx.keep fun k hk => ⟨⟨hk.2, fun hf => by have := hlt k (.inl hf); omega, fun hf => by have := hlt k (.inr (.inl hf)); omega⟩, rfl⟩) (fun _ => h2.calm.modest (show (-1 : Int) ≤ 9223372036854775807 by decide) (by omega) (by omega)) (by have := h.logc; omega) (by have := h.esc; omega)).mono ?_
  rintro e w' ⟨rfl, hp⟩
  cases ha : accB E with
  | true =>
    obtain ⟨a1, a2⟩ := accB_len ha
    rw [pubX_on fs g log es a1 a2] at hp ⊢
    obtain ⟨F', H', S', hx', hk, g1, g2, g3⟩ := h2.xh.op (Nat.le_refl _) hp
    have hxk := h.xk.pub E
    unfold pubL pubE at hxk
    rw [if_pos ha, if_pos ha] at hxk
    refine ⟨0, rfl, by simp [ha], Lib.hid ⟨F', H', S', appF nLog (frameB g (recE E)) fs, some (addF nLog lg (frameB g (recE E))), ?_, hk, g1, g2, g3⟩⟩
    unfold pubL pubE lenA
    rw [if_pos ha, if_pos ha, if_pos ha]
    refine h2.app hx' hxk ?_ ?_ (fun e he => ?_)
    · have := withL_len E es; have := h.esc; omega
    · have := withL_sum E es; have := h.sum; omega
    · rcases mem_withL.1 he with rfl | he
      · exact a2
      · exact h.each e he.1
  | false =>
    have hne : (pubX ⟨-1, fs⟩ g log es E).2.1 ≠ 0 ∧ (pubX ⟨-1, fs⟩ g log es E).1 = ⟨-1, fs⟩ ∧ (pubX ⟨-1, fs⟩ g log es E).2.2.1 = log ∧ (pubX ⟨-1, fs⟩ g log es E).2.2.2 = es := by
      cases ho : okE E with
      | false => rw [pubX_bad ho]; exact ⟨show (200 : Int) ≠ 0 by decide, rfl, rfl, rfl⟩
      | true =>
        have hl : 65536 < (recE E).length := by
          unfold accB at ha
          rw [ho] at ha
          have := of_decide_eq_false (show decide ((recE E).length ≤ 65536) = false by simpa using ha)
          omega
        rw [pubX_long ho hl]; exact ⟨show (20 : Int) ≠ 0 by decide, rfl, rfl, rfl⟩
    obtain ⟨n1, n2, n3, n4⟩ := hne
    rw [n2, n3, n4] at hp
    obtain ⟨F', H', S', hx', hk, g1, g2, g3⟩ := h2.xh.op (Nat.le_refl _) hp
    refine ⟨_, rfl, by simpa using n1, Lib.hid ⟨F', H', S', fs, lg, ?_, hk, g1, g2, g3⟩⟩
    unfold pubL pubE lenA
    simp only [ha, Bool.false_eq_true, if_false]
    exact XI.mono ⟨hx', h.v3, h.lok, h.lg0, h.calm, h.xk, h.logc, h.esc, h.sum, h.each⟩ (by omega) (by omega) (by omega)
theorem XI.remove {W wr : World} {px p g s c d m : Nat} {base log : List (List UInt8)} {es : List En} {F H S : Nat → Prop} {fs : List File} {lg : Option File} (h : XI W wr px p g base log es s c d m F H S fs lg) (u : ByteArray) (hu : u.size ≤ 9223372036854775807) (hc : c ≤ 900) (hd : d ≤ 2000000) :
    Calls Tryz.prog 28 #[.pointer (some ⟨px, 0, none⟩), .string u] wr fun e w' => ∃ k : Int, e = .returned (.int .i64 k) ∧ Hid (∃ F' H' S' fs' lg', XI W w' px p g base (rmvL log es u) (rmvE es u) s (c + 1) (d + 100) m F' H' S' fs' lg') := by
  refine (ixremove_any wr px p g ⟨-1, fs⟩ base log es F H S h.xh.xf h.xk.good u hu (h.calm.modest (show (-1 : Int) ≤ 9223372036854775807 by decide) (by omega) (by omega)) (by have := h.logc; omega)).mono ?_
  rintro e w' ⟨rfl, hp⟩
  cases hf : findL keyE u.data.toList es with
  | none =>
    rw [rmvX_none hf] at hp ⊢
    obtain ⟨F', H', S', hx', -⟩ := h.xh.op (Nat.le_refl _) hp
    refine ⟨_, rfl, Lib.hid ⟨F', H', S', fs, lg, ?_⟩⟩
    unfold rmvL rmvE
    rw [hf]
    simp only [Option.isSome_none, Bool.false_eq_true, if_false]
    exact XI.mono ⟨hx', h.v3, h.lok, h.lg0, h.calm, h.xk, h.logc, h.esc, h.sum, h.each⟩ (by omega) (by omega) (by omega)
  | some e =>
    rw [rmvX_some hf, jAppend_onX] at hp ⊢
    simp only [if_true] at hp
    obtain ⟨F', H', S', hx', -⟩ := h.xh.op (Nat.le_refl _) hp
    have hxk := h.xk.rmv u
    unfold rmvL rmvE at hxk
    rw [hf] at hxk
    simp only [Option.isSome_some, if_true] at hxk
    have hel : (remE u).length ≤ 66 := by
      have he := h.xk.good.ok e (findL_some hf).1
      have hk : keyE e = u.data.toList := (findL_some hf).2
      have hss : e.uri.size = u.size := by rw [← ba_len u, ← ba_len e.uri]; exact congrArg List.length hk
      have := okE_uri he
      have hl : (remE u).length = 2 + u.size := by have := ba_len u; unfold remE; simp only [List.length_append, this]; rfl
      omega
    refine ⟨_, rfl, Lib.hid ⟨F', H', S', appF nLog (frameB g (remE u)) fs, some (addF nLog lg (frameB g (remE u))), ?_⟩⟩
    unfold rmvL rmvE
    rw [hf]
    simp only [Option.isSome_some, if_true]
    refine XI.mono (h.app hx' hxk (m' := m) ?_ ?_ (fun e he => h.each e (mem_dropL.1 he).1)) (Nat.le_refl _) (by omega) (Nat.le_refl _)
    · have := dropL_len u.data.toList es; have := h.esc; omega
    · have := dropL_sum u.data.toList es; have := h.sum; omega
theorem bsOf_base {g : Nat} (hg : g ≠ 0) (b : List (List UInt8)) : bsOf g b = some ⟨nBase, encR g (be4 b.length :: b), (encR g (be4 b.length :: b)).length⟩ := by unfold bsOf; rw [if_neg hg]
theorem XI.compact {W wr : World} {px p g s c d m : Nat} {base log : List (List UInt8)} {es : List En} {F H S : Nat → Prop} {fs : List File} {lg : Option File} (h : XI W wr px p g base log es s c d m F H S fs lg) (hg : g ≤ 1000) (hc : c ≤ 900) (hd : d ≤ 2000000) (hm : m ≤ 800000) :
    Calls Tryz.prog 23 #[.pointer (some ⟨px, 0, none⟩)] wr fun e w' => e = .returned (.int .i64 0) ∧ Hid (∃ F' H' S' fs' lg', XI W w' px p (g + 1) (es.map recE) [] es 0 (c + 4) (d + 4 * (m + 12 * c + 100)) m F' H' S' fs' lg' ∧ Kept (fun k => F k ∨ H k) wr w' ∧ Grows wr F F' ∧ Grows wr H H' ∧ Grows wr S S') := by
  have hE0 : (encR (g + 1) (be4 (es.map recE).length :: es.map recE)).length ≤ m + 12 * c + 100 := by
    have h1 := h.sum
    have h2 := h.esc
    rw [encR_cons, List.length_append, frameB_length, encR_sum, be4_length, List.length_map]
    omega
  have hE : (encR (g + 1) (be4 (es.map recE).length :: es.map recE)).length ≤ 900000 := by omega
  refine (compact_any wr px p g ⟨-1, fs⟩ base log es F H S h.xh.xf h.xk.good (by have := h.esc; omega) h.each (by omega) hE h.calm (by omega) hd (show (-1 : Int) ≤ 9223372036854775807 by decide)).mono ?_
  rintro e w' ⟨r, hr, rfl, hp⟩
  obtain ⟨fs', hl, hv3⟩ := h.v3.lay (encR (g + 1) (be4 (es.map recE).length :: es.map recE))
  have hcm := lay_calm (b := encR (g + 1) (be4 (es.map recE).length :: es.map recE)) (stepsOf (hasF fs nLog)) (st := ⟨-1, fs⟩) h.calm
  rw [hl] at hcm
  have hr' : r = (⟨-1, fs'⟩, 0) := by rw [← hr]; exact hl
  subst hr'
  simp only [if_true] at hp
  obtain ⟨F', H', S', hx', hk, hgr⟩ := h.xh.op (Nat.le_refl _) hp
  have hks : (stepsOf (hasF fs nLog)).length ≤ 4 := by cases hasF fs nLog <;> simp [stepsOf]
  have hmul : (stepsOf (hasF fs nLog)).length * (encR (g + 1) (be4 (es.map recE).length :: es.map recE)).length ≤ 4 * (m + 12 * c + 100) := Nat.mul_le_mul hks hE0
  refine ⟨rfl, Lib.hid ⟨F', H', S', fs', cutLog lg, ⟨hx', ?_, ?_, fun _ => rfl, hcm.mono (by omega) (by omega), h.xk.compact h.each, by simp, by have := h.esc; omega, h.sum, h.each⟩, hk, hgr⟩⟩
  · rw [bsOf_base (by omega)]; exact hv3
  · cases lg with
    | none => exact .inl ⟨rfl, rfl⟩
    | some f => exact .inr (by simp [cutLog, encR])
theorem XH.xi {W wr : World} {px p : Nat} {F H S : Nat → Prop} (h : XH W.heap.size W wr px p ⟨-1, []⟩ 0 [] [] [] F H S) : XI W wr px p 0 [] [] [] 0 0 0 0 F H S [] none :=
  ⟨h, V3.nil, .inl ⟨rfl, rfl⟩, fun _ => rfl, Calm.nil, XK.nil, by simp, by simp, by simp [sumL], by simp⟩
end Go.Proofs.YtaalbcfpacpgfaaGreat
