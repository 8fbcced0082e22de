/- What is said is read again: plain. Second: the types. -/
import Derived.Test.YtbhicpjhijondaaDoorT37
namespace Go.Proofs.YtbhicpjhijondaaDoor
open Go.RowKit Go.Lib Go.Vfs Go.Par Go.Typ Go.Shelf
set_option linter.unusedVariables false
set_option linter.unusedSimpArgs false

/-- what may stand behind a type, a row of types with stars between, a type with its names. -/
def stopA (r : List UInt8) : Prop := r = [] ∨ (∃ x, r = 41 :: x) ∨ ∃ x, r = 44 :: 32 :: x
def stopP (r : List UInt8) : Prop := stopA r ∨ ∃ x, r = 32 :: 45 :: 62 :: 32 :: x
def stopN (r : List UInt8) : Prop := stopP r ∨ ∃ x, r = 32 :: 42 :: 32 :: x
theorem noNm_cons {x : UInt8} {r : List UInt8} (h : nmN true x.toNat = false) : noNm (x :: r) := fun y ys e => by
  cases e; exact h
theorem stopN.noNm {r : List UInt8} (h : stopN r) : noNm r := by
  rcases h with ((rfl | ⟨x, rfl⟩ | ⟨x, rfl⟩) | ⟨x, rfl⟩) | ⟨x, rfl⟩
  · intro x xs e; cases e
  all_goals exact noNm_cons (by decide)
theorem stopN.end_ {s : ByteArray} {r : List UInt8} (h : stopN r) {a : Nat} (hd : Dr s a r) : ¬ (a + 1 < s.size ∧ byteS s a = 32 ∧ nmN true (byteS s (a + 1)) = true) := by
  rintro ⟨h1, h2, h3⟩
  rcases h with ((rfl | ⟨x, rfl⟩ | ⟨x, rfl⟩) | ⟨x, rfl⟩) | ⟨x, rfl⟩
  · have := hd.len; simp at this; omega
  · rw [hd.byte.1] at h2; exact absurd h2 (by decide)
  · rw [hd.byte.1] at h2; exact absurd h2 (by decide)
  all_goals
    have hb := (hd.next (l := [32])).byte
    rw [show a + [(32 : UInt8)].length = a + 1 from rfl] at hb
    rw [hb.1] at h3
    exact absurd h3 (by decide)
theorem stopP.star {r : List UInt8} (h : stopP r) : ([32, 42, 32] : List UInt8).isPrefixOf r = false := by
  rcases h with (rfl | ⟨x, rfl⟩ | ⟨x, rfl⟩) | ⟨x, rfl⟩ <;> simp [List.isPrefixOf]
theorem stopA.arrow {r : List UInt8} (h : stopA r) : ([32, 45, 62, 32] : List UInt8).isPrefixOf r = false := by
  rcases h with rfl | ⟨x, rfl⟩ | ⟨x, rfl⟩ <;> simp [List.isPrefixOf]

def AL (s : ByteArray) (T : Ty) : Prop := ∀ (f a c : Nat) (r : List UInt8), T.parts ≤ f → Dr s a (sayT T ++ r) → stopA r → c + T.parts ≤ 300 → arrowP s f a c = some (T, a + (sayT T).length, c + T.parts)
def NL (s : ByteArray) (T : Ty) : Prop := ∀ (g a c : Nat) (r : List UInt8), T.parts ≤ g + (if pairB T = true then 0 else 1) → Dr s a (insT T ++ r) → noNm r → c + T.parts ≤ 300 →
  ∃ f', s.size ≤ f' + (a + (insT T).length) ∧ namedP (arrowP s g) s a c = namL s f' T (a + (insT T).length) (c + T.parts)
def parT (T : Ty) : List UInt8 := wrapB (decide (T.kind = 4)) (sayT T)
def PL (s : ByteArray) (T : Ty) : Prop := ∀ (g a c : Nat) (r : List UInt8), T.parts ≤ g + (if T.kind = 4 then 0 else 1) → Dr s a (parT T ++ r) → stopP r → c + T.parts ≤ 300 → pairP (arrowP s g) s a c = some (T, a + (parT T).length, c + T.parts)

theorem NL.stop {s : ByteArray} {T : Ty} (h : NL s T) {g a c : Nat} {r : List UInt8} (hg : T.parts ≤ g + (if pairB T = true then 0 else 1)) (hd : Dr s a (insT T ++ r)) (hr : stopN r) (hc : c + T.parts ≤ 300) :
    namedP (arrowP s g) s a c = some (T, a + (insT T).length, c + T.parts) := by
  obtain ⟨f', _, h2⟩ := h g a c r hg hd hr.noNm hc
  rw [h2, namL_end (hr.end_ hd.next)]
/-- types in brackets. -/
theorem many_al {s : ByteArray} {ts : List Ty} (h0 : ts ≠ []) (h : ∀ t ∈ ts, AL s t) {g a c : Nat} {r : List UInt8} (hg : ∀ t ∈ ts, t.parts ≤ g) (hd : Dr s a (joinW [44, 32] (ts.map sayT) ++ 41 :: r)) (hc : c + partsL ts ≤ 300) :
    manyP (arrowP s g) s [44, 32] a c = some (ts, a + (joinW [44, 32] (ts.map sayT)).length, c + partsL ts) :=
  manyP_dr (arrowP s g) [44, 32] sayT (fun r => (∃ x, r = 41 :: x) ∨ ∃ x, r = 44 :: 32 :: x) (fun x => Or.inr ⟨x, rfl⟩) (by decide) (41 :: r) (Or.inl ⟨r, rfl⟩) (by simp [List.isPrefixOf]) ts h0 a c
    (fun t ht a c r' hd' hr' hc' => h t ht g a c r' (hg t ht) hd' (Or.inr hr') hc') hd hc
theorem al_brackets {s : ByteArray} {T : Ty} (h : AL s T) (hp : pairB T = true) : NL s T := by
  intro g a c r hg hd hr hc
  rw [if_pos hp] at hg
  have hi : insT T = 40 :: (sayT T ++ [41]) := by unfold insT wrapB; rw [hp]; rfl
  rw [hi] at hd ⊢
  rw [List.cons_append] at hd
  have h39 : preB s [39] a = false := by rw [hd.preE]; simp [List.isPrefixOf]
  have h40 : preB s [40] a = true := hd.pre (wd := [40])
  have hd1 : Dr s (a + 1) (sayT T ++ [41] ++ r) := hd.next (l := [40])
  rw [List.append_assoc] at hd1
  have hm := many_al (s := s) (ts := [T]) (by simp) (fun t ht => by rw [List.mem_singleton.1 ht]; exact h) (g := g) (a := a + 1) (c := c) (r := r) (fun t ht => by rw [List.mem_singleton.1 ht]; omega)
    (by simpa [joinW] using hd1) (by simpa [partsL] using hc)
  have hj : joinW [44, 32] ([T].map sayT) = sayT T := by simp [joinW]
  rw [hj] at hm
  have h41 : preB s [41] (a + 1 + (sayT T).length) = true := (hd1.next).pre (wd := [41])
  refine ⟨s.size, by omega, ?_⟩
  unfold namedP firstP
  rw [if_neg (by rw [h39]; decide), if_pos h40, hm]
  simp only [closeP, h41, if_true, List.length_singleton, List.getD_cons_zero, partsL, List.length_cons, List.length_append, List.length_nil]
  rw [show a + 1 + (sayT T).length + 1 = a + ((sayT T).length + (0 + 1) + 1) by omega, show c + (T.parts + 0) = c + T.parts by omega]
theorem NL.pair {s : ByteArray} {T : Ty} (h : NL s T) (hk : T.kind ≠ 3) : PL s T := by
  intro g a c r hg hd hr hc
  have hp : pairB T = decide (T.kind = 4) := by unfold pairB; rw [decide_eq_false hk, Bool.false_or]
  have hi : insT T = parT T := by unfold insT parT; rw [hp]
  have hg' : T.parts ≤ g + (if pairB T = true then 0 else 1) := by rw [hp]; simpa using hg
  have hm := manyP_dr (s := s) (namedP (arrowP s g) s) [32, 42, 32] insT stopN (fun x => Or.inr ⟨x, rfl⟩) (by decide) r (Or.inl hr) hr.star [T] (by simp) a c
    (fun t ht a c r' hd' hr' hc' => by have e := List.mem_singleton.1 ht; subst e; exact h.stop hg' hd' hr' hc') (by rw [← hi] at hd; simpa [joinW] using hd) (by simpa [partsL] using hc)
  have hj : joinW [32, 42, 32] ([T].map insT) = parT T := by simp [joinW, hi]
  rw [hj] at hm
  unfold pairP
  rw [hm, starP_some, if_pos (by rfl)]
  simp [partsL]
theorem PL.al {s : ByteArray} {T : Ty} (h : PL s T) (hk : T.kind ≠ 4) : AL s T := by
  intro f a c r hf hd hr hc
  have hp := T.parts_pos
  obtain ⟨g, rfl⟩ : ∃ g, f = g + 1 := ⟨f - 1, by omega⟩
  have hi : parT T = sayT T := by unfold parT; rw [decide_eq_false hk]; rfl
  have hg := h g a c r (by rw [if_neg hk]; exact hf) (by rw [hi]; exact hd) (Or.inl hr) hc
  rw [hi] at hg
  have hn : preB s [32, 45, 62, 32] (a + (sayT T).length) = false := by rw [(hd.next).preE]; exact hr.arrow
  rw [arrowP]
  unfold arr1
  rw [hg]
  simp [hn]
theorem name_byte {nm : ByteArray} (h : nameOk nm.data.toList = true) (r : List UInt8) : ∃ c cs, nm.data.toList ++ r = c :: cs ∧ nmN true c.toNat = true ∧ c ≠ 39 ∧ c ≠ 40 := by
  obtain ⟨h1, c, cs, h2, h3⟩ := nameOk_all h
  refine ⟨c, cs ++ r, by rw [h2]; rfl, h1 c (by rw [h2]; exact List.mem_cons_self), ?_, ?_⟩
  · rintro rfl; exact absurd h3 (by decide)
  · rintro rfl; exact absurd h3 (by decide)
theorem nl_var {s : ByteArray} {n : Int} (h0 : 0 ≤ n) (h1 : n < 1073741824) : NL s (.mk 1 n ⟨#[]⟩ []) := by
  intro g a c r hg hd hr hc
  have hi : insT (.mk 1 n ⟨#[]⟩ []) = varW n := by unfold insT wrapB pairB; simp [Ty.kind, sayT]
  rw [hi] at hd ⊢
  have hp : (Ty.mk 1 n ⟨#[]⟩ []).parts = 1 := rfl
  rw [hp] at hc ⊢
  have h39 : preB s [39] a = true := by
    unfold varW at hd
    rw [List.append_assoc] at hd
    exact hd.pre (wd := [39]) (l := UInt8.ofNat (97 + n.toNat % 26) :: ((if 26 ≤ n then Lib.itoa (n / 26) else []) ++ r))
  refine ⟨s.size, by omega, ?_⟩
  unfold namedP firstP
  rw [if_pos h39, varP_dr s n h0 h1 a c r hd hr hc]
theorem nl_con {s : ByteArray} {nm : ByteArray} {ts : List Ty} (hn : nameOk nm.data.toList = true) (hA : ∀ t ∈ ts, AL s t ∧ NL s t) : NL s (.mk 2 0 nm ts) := by
  intro g a c r hg hd hr hc
  have hpB : pairB (.mk 2 0 nm ts) = false := rfl
  rw [hpB] at hg
  simp only [Ty.parts, Bool.false_eq_true, if_false] at hg hc ⊢
  have hin : insT (.mk 2 0 nm ts) = sayT (.mk 2 0 nm ts) := by unfold insT wrapB; rw [hpB]; rfl
  rw [hin] at hd ⊢
  cases ts with
  | nil =>
    have hs : sayT (.mk 2 0 nm []) = nm.data.toList := by simp [sayT]
    rw [hs] at hd ⊢
    obtain ⟨x, xs, hx, hxn, x1, x2⟩ := name_byte hn r
    have h39 : preB s [39] a = false := by rw [hd.preE, hx]; simp [List.isPrefixOf]; exact fun h => x1 h.symm
    have h40 : preB s [40] a = false := by rw [hd.preE, hx]; simp [List.isPrefixOf]; exact fun h => x2 h.symm
    have he := nmEnd_dr hd (nameOk_all hn).1 hr
    refine ⟨s.size, by omega, ?_⟩
    unfold namedP firstP
    rw [if_neg (by rw [h39]; decide), if_neg (by rw [h40]; decide), he, extract_dr hd]
    unfold partP
    rw [if_pos (by simp only [partsL] at hc; omega)]
    simp only [partsL]
  | cons t us =>
    cases us with
    | nil =>
      have hs : sayT (.mk 2 0 nm [t]) = insT t ++ (32 :: nm.data.toList) := by
        rw [sayT, if_neg (by decide), if_pos rfl, if_pos (by rfl), if_neg (by simp), insW_map]
        simp [joinW]
      rw [hs] at hd ⊢
      rw [List.append_assoc, List.cons_append] at hd
      simp only [partsL, Nat.add_zero] at hg hc ⊢
      obtain ⟨f', hf, hnm⟩ := (hA t List.mem_cons_self).2 g a c _ (by omega) hd (noNm_cons (by decide)) (by omega)
      have hd1 := hd.next
      have hb := hd1.byte
      have hd2 : Dr s (a + (insT t).length + 1) (nm.data.toList ++ r) := hd1.next (l := [32])
      obtain ⟨x, xs, hx, hxn, x1, x2⟩ := name_byte hn r
      have hb2 : byteS s (a + (insT t).length + 1) = x.toNat ∧ a + (insT t).length + 1 < s.size := by
        rw [hx] at hd2; exact hd2.byte
      have he := nmEnd_dr hd2 (nameOk_all hn).1 hr
      obtain ⟨f, rfl⟩ : ∃ f, f' = f + 1 := ⟨f' - 1, by omega⟩
      rw [hnm, namL, if_pos ⟨hb2.2, hb.1, by rw [hb2.1]; exact hxn⟩, he, extract_dr hd2]
      refine ⟨f, ?_, ?_⟩
      · simp only [List.length_append, List.length_cons]; omega
      · unfold partP
        rw [if_pos (by omega)]
        simp only [List.length_append, List.length_cons]
        rw [show a + (insT t).length + 1 + nm.data.toList.length = a + ((insT t).length + (nm.data.toList.length + 1)) by omega, show c + t.parts + 1 = c + (1 + t.parts) by omega]
    | cons u vs =>
      obtain ⟨ts, hts⟩ : ∃ ts, ts = t :: u :: vs := ⟨_, rfl⟩
      have hl : 2 ≤ ts.length := by rw [hts]; simp
      rw [← hts] at hA hg hc hd ⊢
      clear hts
      have hs : sayT (.mk 2 0 nm ts) = 40 :: (joinW [44, 32] (ts.map sayT) ++ 41 :: 32 :: nm.data.toList) := by
        rw [sayT, if_neg (by decide), if_pos rfl, if_neg (by omega), if_neg (by omega), if_neg (by omega), sayL_map]
        simp
      rw [hs] at hd ⊢
      rw [List.cons_append, List.append_assoc, List.cons_append, List.cons_append] at hd
      have h39 : preB s [39] a = false := by rw [hd.preE]; simp [List.isPrefixOf]
      have h40 : preB s [40] a = true := hd.pre (wd := [40])
      have hd1 : Dr s (a + 1) _ := hd.next (l := [40])
      have hm := many_al (g := g) (a := a + 1) (c := c) (by intro h; rw [h] at hl; simp at hl) (fun t ht => (hA t ht).1) (fun t ht => by have := parts_mem ht; omega) hd1 (by omega)
      have hd2 := hd1.next
      have hd3 : Dr s (a + 1 + (joinW [44, 32] (ts.map sayT)).length + 1) (32 :: (nm.data.toList ++ r)) := hd2.next (l := [41])
      have hd4 : Dr s (a + 1 + (joinW [44, 32] (ts.map sayT)).length + 2) (nm.data.toList ++ r) := hd3.next (l := [32])
      have h41 := hd2.pre (wd := [41])
      have h32 := hd3.pre (wd := [32])
      have he := nmEnd_dr hd4 (nameOk_all hn).1 hr
      refine ⟨s.size, by omega, ?_⟩
      unfold namedP firstP
      rw [if_neg (by rw [h39]; decide), if_pos h40, hm]
      simp only [closeP]
      rw [if_pos h41, if_neg (by omega), if_pos h32, he, extract_dr hd4]
      unfold partP
      rw [if_pos (by omega)]
      simp only [List.length_append, List.length_cons]
      rw [show a + 1 + (joinW [44, 32] (ts.map sayT)).length + 2 + nm.data.toList.length = a + ((joinW [44, 32] (ts.map sayT)).length + (nm.data.toList.length + 1 + 1) + 1) by omega, show c + partsL ts + 1 = c + (1 + partsL ts) by omega]
theorem pl_pair {s : ByteArray} {ts : List Ty} (hl : 2 ≤ ts.length) (hA : ∀ t ∈ ts, NL s t) : PL s (.mk 3 0 ⟨#[]⟩ ts) := by
  intro g a c r hg hd hr hc
  have hs : parT (.mk 3 0 ⟨#[]⟩ ts) = joinW [32, 42, 32] (ts.map insT) := by
    have hk : decide ((Ty.mk 3 0 ⟨#[]⟩ ts).kind = 4) = false := rfl
    unfold parT
    rw [hk]
    show sayT (.mk 3 0 ⟨#[]⟩ ts) = _
    rw [sayT, if_neg (by decide), if_neg (by decide), if_pos rfl, insW_map]
  rw [hs] at hd ⊢
  have hk4 : ¬ (Ty.mk 3 0 ⟨#[]⟩ ts).kind = 4 := by show ¬ (3 : Int) = 4; decide
  rw [if_neg hk4] at hg
  simp only [Ty.parts] at hg hc ⊢
  have hm := manyP_dr (s := s) (namedP (arrowP s g) s) [32, 42, 32] insT stopN (fun x => Or.inr ⟨x, rfl⟩) (by decide) r (Or.inl hr) hr.star ts (by intro h; rw [h] at hl; simp at hl) a c
    (fun t ht a c r' hd' hr' hc' => (hA t ht).stop (by have := parts_mem ht; omega) hd' hr' hc') hd (by omega)
  unfold pairP
  rw [hm, starP_some, if_neg (by omega)]
  unfold partP
  rw [if_pos (by omega), show c + partsL ts + 1 = c + (1 + partsL ts) by omega]
theorem al_arrow {s : ByteArray} {x y : Ty} (hx : PL s x) (hy : AL s y) : AL s (.mk 4 0 ⟨#[]⟩ [x, y]) := by
  intro f a c r hf hd hr hc
  simp only [Ty.parts, partsL, Nat.add_zero] at hf hc ⊢
  obtain ⟨g, rfl⟩ : ∃ g, f = g + 1 := ⟨f - 1, by omega⟩
  have hxp := x.parts_pos
  have hyp := y.parts_pos
  have hs : sayT (.mk 4 0 ⟨#[]⟩ [x, y]) = parT x ++ (32 :: 45 :: 62 :: 32 :: sayT y) := by
    rw [sayT, if_neg (by decide), if_neg (by decide), if_neg (by decide), if_pos rfl, sayL_map]
    unfold parT
    simp
  rw [hs] at hd ⊢
  rw [List.append_assoc] at hd
  have h1 := hx g a c _ (by omega) hd (Or.inr ⟨_, rfl⟩) (by omega)
  have hd1 := hd.next
  have h2 := hd1.pre (wd := [32, 45, 62, 32])
  have hd2 : Dr s (a + (parT x).length + 4) (sayT y ++ r) := hd1.next (l := [32, 45, 62, 32])
  have h3 := hy g (a + (parT x).length + 4) (c + x.parts) r (by omega) hd2 hr (by omega)
  rw [arrowP]
  unfold arr1
  rw [h1]
  simp only
  rw [if_pos h2, h3]
  simp only
  unfold partP
  rw [if_pos (by omega)]
  simp only [List.length_append, List.length_cons]
  rw [show a + (parT x).length + 4 + (sayT y).length = a + ((parT x).length + ((sayT y).length + 1 + 1 + 1 + 1)) by omega, show c + x.parts + y.parts + 1 = c + (1 + (x.parts + y.parts)) by omega]
theorem fitAll_mem {T a : Ty} (h : FitAll T) (ha : a ∈ T.args) : FitAll a := fun x hx => h x (by
  rw [T.list_eq]
  exact List.mem_cons_of_mem _ (mem_listL ha hx))
theorem ba_nil {s : ByteArray} (h : s.toList = []) : s = ⟨#[]⟩ := by
  apply ByteArray.ext
  apply Array.toList_inj.mp
  rw [← ByteArray.toList_eq]
  exact h
theorem all_al (s : ByteArray) : ∀ (n : Nat) (T : Ty), T.parts ≤ n → FitAll T → AL s T ∧ NL s T ∧ PL s T := by
  intro n
  induction n with
  | zero => intro T h; have := T.parts_pos; omega
  | succ n ih =>
    intro T hp hF
    have hi : ∀ t ∈ T.args, AL s t ∧ NL s t ∧ PL s t := fun t ht => ih t (by have := parts_mem ht; have := T.parts_eq; omega) (fitAll_mem hF ht)
    have hf := hF.self
    clear hp hF ih
    obtain ⟨k, m, nm, ts⟩ := T
    have hf := fits_kinds hf
    simp only [Ty.kind, Ty.num, Ty.name, Ty.args] at hf hi
    rcases hf with ⟨rfl, h0, h1, h2, h3⟩ | ⟨rfl, rfl, h1⟩ | ⟨rfl, rfl, h1, h2⟩ | ⟨rfl, rfl, h1, h2⟩
    · obtain rfl := List.eq_nil_of_length_eq_zero h3
      obtain rfl := ba_nil h2
      have hN : NL s (.mk 1 m ⟨#[]⟩ []) := nl_var h0 h1
      have hP := hN.pair (by simp [Ty.kind])
      exact ⟨hP.al (by simp [Ty.kind]), hN, hP⟩
    · have hN : NL s (.mk 2 0 nm ts) := nl_con h1 fun t ht => ⟨(hi t ht).1, (hi t ht).2.1⟩
      have hP := hN.pair (by simp [Ty.kind])
      exact ⟨hP.al (by simp [Ty.kind]), hN, hP⟩
    · obtain rfl := ba_nil h1
      have hP : PL s (.mk 3 0 ⟨#[]⟩ ts) := pl_pair h2 fun t ht => (hi t ht).2.1
      have hA := hP.al (by simp [Ty.kind])
      exact ⟨hA, al_brackets hA rfl, hP⟩
    · obtain rfl := ba_nil h1
      obtain ⟨x, y, rfl⟩ : ∃ x y, ts = [x, y] := by
        match ts, h2 with
        | [x, y], _ => exact ⟨x, y, rfl⟩
      have hA : AL s (.mk 4 0 ⟨#[]⟩ [x, y]) := al_arrow (hi x List.mem_cons_self).2.2 (hi y (List.mem_cons_of_mem _ List.mem_cons_self)).1
      have hN := al_brackets hA rfl
      exact ⟨hA, hN, hN.pair (by simp [Ty.kind])⟩
/-- what is said of a right type is read as that type. -/
theorem read_say {T : Ty} (h : rightT T = true) {s : ByteArray} (hs : s.data.toList = sayT T) : readT s = some T := by
  obtain ⟨hp, hF⟩ := rightT_iff.1 h
  have hd : Dr s 0 (sayT T ++ []) := ⟨by rw [List.drop_zero, List.append_nil]; exact hs, Nat.zero_le _⟩
  have hl := hd.len
  rw [List.append_nil] at hl
  unfold readT
  rw [(all_al s _ T (Nat.le_refl _) hF).1 301 0 0 [] (by omega) hd (Or.inl rfl) (by omega)]
  simp only
  rw [if_pos hl.symm, if_pos ⟨h, hs.symm⟩]
end Go.Proofs.YtbhicpjhijondaaDoor
