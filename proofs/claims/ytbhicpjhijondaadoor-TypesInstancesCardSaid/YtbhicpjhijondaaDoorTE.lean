/- Merged of T37 T38 T39. -/
import Derived.Test.YtbhicpjhijondaaDoorTC
/- T37 -/
/- What is said is read again: plain. First: words, names, variables, rows. -/
namespace Go.Proofs.YtbhicpjhijondaaDoor
open Go.RowKit Go.Lib Go.Vfs Go.Par Go.Typ Go.Shelf
set_option linter.unusedVariables false
set_option linter.unusedSimpArgs false

/-- these bytes stand there, to the end. -/
def Dr (s : ByteArray) (a : Nat) (l : List UInt8) : Prop := s.data.toList.drop a = l ∧ a ≤ s.size
theorem Dr.next {s : ByteArray} {a : Nat} {l r : List UInt8} (h : Dr s a (l ++ r)) : Dr s (a + l.length) r := by
  obtain ⟨h, ha⟩ := h
  have hl : (s.data.toList.drop a).length = s.size - a := by rw [List.length_drop, name_len]
  rw [h, List.length_append] at hl
  refine ⟨?_, by omega⟩
  rw [← List.drop_drop, h, List.drop_left]
theorem Dr.len {s : ByteArray} {a : Nat} {l : List UInt8} (h : Dr s a l) : s.size = a + l.length := by
  obtain ⟨h, ha⟩ := h
  have hl : (s.data.toList.drop a).length = s.size - a := by rw [List.length_drop, name_len]
  rw [h] at hl
  omega
theorem Dr.byte {s : ByteArray} {a : Nat} {x : UInt8} {l : List UInt8} (h : Dr s a (x :: l)) : byteS s a = x.toNat ∧ a < s.size := by
  have hl := h.len
  simp only [List.length_cons] at hl
  refine ⟨?_, by omega⟩
  unfold byteS
  have h1 : s.data.toList.drop a = x :: l := h.1
  have h2 : (s.data.toList.drop a)[0]? = some x := by rw [h1]; rfl
  rw [List.getElem?_drop, Nat.add_zero] at h2
  rw [List.getD_eq_getElem?_getD, h2]; rfl
theorem Dr.pre {s : ByteArray} {a : Nat} {wd l : List UInt8} (h : Dr s a (wd ++ l)) : preB s wd a = true := by
  unfold preB
  rw [h.1, List.isPrefixOf_iff_prefix]
  exact List.prefix_append _ _
theorem Dr.preE {s : ByteArray} {a : Nat} {wd l : List UInt8} (h : Dr s a l) : preB s wd a = wd.isPrefixOf l := by
  unfold preB
  rw [h.1]
/-- no byte of a name stands ahead. -/
def noNm (r : List UInt8) : Prop := ∀ x xs, r = x :: xs → nmN true x.toNat = false
theorem takeWhile_all {p : UInt8 → Bool} : ∀ (nm r : List UInt8), (∀ x ∈ nm, p x = true) → (∀ x xs, r = x :: xs → p x = false) → (nm ++ r).takeWhile p = nm
  | [], r, _, h => by
    cases r with
    | nil => rfl
    | cons x xs => rw [List.nil_append, List.takeWhile_cons, h x xs rfl]; rfl
  | y :: nm, r, h1, h2 => by
    rw [List.cons_append, List.takeWhile_cons, h1 y List.mem_cons_self, if_pos rfl, takeWhile_all nm r (fun x hx => h1 x (List.mem_cons_of_mem _ hx)) h2]
theorem nmEnd_dr {s : ByteArray} {a : Nat} {nm r : List UInt8} (h : Dr s a (nm ++ r)) (h1 : ∀ x ∈ nm, nmN true x.toNat = true) (h2 : noNm r) : nmEnd s a = a + nm.length := by
  unfold nmEnd
  rw [h.1, takeWhile_all nm r h1 h2]
theorem extract_dr {s name : ByteArray} {a : Nat} {r : List UInt8} (h : Dr s a (name.data.toList ++ r)) : s.extract a (a + name.data.toList.length) = name := by
  apply ByteArray.ext
  apply Array.toList_inj.mp
  rw [Lib.extract_data, h.1, Nat.add_sub_cancel_left, List.take_left]
theorem nameOk_all {l : List UInt8} (h : nameOk l = true) : (∀ x ∈ l, nmN true x.toNat = true) ∧ ∃ c cs, l = c :: cs ∧ (smallN c.toNat || decide (c.toNat = 95)) = true := by
  cases l with
  | nil => simp [nameOk] at h
  | cons c cs =>
    simp only [nameOk, Bool.and_eq_true] at h
    exact ⟨fun x hx => List.all_eq_true.1 h.1.2 x hx, c, cs, rfl, h.1.1⟩

/-! variables -/
def foldD (t : Nat) (ds : List UInt8) : Nat := ds.foldl (fun t d => t * 10 + (d.toNat - 48)) t
theorem foldD_ge : ∀ (ds : List UInt8) (t : Nat), t ≤ foldD t ds
  | [], t => Nat.le_refl _
  | d :: ds, t => by
    have := foldD_ge ds (t * 10 + (d.toNat - 48))
    show t ≤ foldD (t * 10 + (d.toNat - 48)) ds
    omega
theorem digsF_dr (s : ByteArray) (r : List UInt8) (hr : ∀ x xs, r = x :: xs → digitN x.toNat = false) : ∀ (ds : List UInt8) (f k t : Nat), (∀ x ∈ ds, digitN x.toNat = true) → Dr s k (ds ++ r) → foldD t ds ≤ 1073741824 → ds.length ≤ f →
    digsF s f k t = some (k + ds.length, foldD t ds)
  | [], f, k, t, _, h, _, _ => by
    refine digsF_end fun hx => ?_
    rw [List.nil_append] at h
    cases r with
    | nil => have := h.len; simp at this; omega
    | cons x xs => rw [h.byte.1, hr x xs rfl] at hx; simp at hx
  | d :: ds, 0, k, t, _, _, _, hf => by simp at hf
  | d :: ds, f + 1, k, t, hd, h, hb, hf => by
    rw [List.cons_append] at h
    have hbt := h.byte
    have hdd := hd d List.mem_cons_self
    have hb' : foldD (t * 10 + (d.toNat - 48)) ds ≤ 1073741824 := hb
    have hge := foldD_ge ds (t * 10 + (d.toNat - 48))
    rw [digsF, if_pos ⟨hbt.2, by rw [hbt.1]; exact hdd⟩, hbt.1, if_neg (by omega), digsF_dr s r hr ds f (k + 1) _ (fun x hx => hd x (List.mem_cons_of_mem _ hx)) (h.next (l := [d])) hb' (by simpa using hf)]
    simp only [List.length_cons, foldD, List.foldl_cons]
    rw [show k + 1 + ds.length = k + (ds.length + 1) by omega]
theorem dec_digits (u : Nat) : (∀ x ∈ Lib.decDigits u, digitN x.toNat = true) ∧ foldD 0 (Lib.decDigits u) = u := by
  induction u using Nat.strongRecOn with
  | _ u ih =>
    have key : ∀ v, v < 10 → (UInt8.ofNat (48 + v)).toNat = 48 + v := fun v hv => by
      rw [UInt8.toNat_ofNat']; omega
    by_cases h : u < 10
    · rw [Lib.decDigits, dif_pos h]
      refine ⟨fun x hx => ?_, ?_⟩
      · rw [List.mem_singleton.1 hx, key u h]; unfold digitN; exact decide_eq_true (by omega)
      · show 0 * 10 + ((UInt8.ofNat (48 + u)).toNat - 48) = u
        rw [key u h]; omega
    · rw [Lib.decDigits, dif_neg h]
      obtain ⟨i1, i2⟩ := ih (u / 10) (by omega)
      have hm := key (u % 10) (by omega)
      refine ⟨fun x hx => ?_, ?_⟩
      · rcases List.mem_append.1 hx with hx | hx
        · exact i1 x hx
        · rw [List.mem_singleton.1 hx, hm]; unfold digitN; exact decide_eq_true (by omega)
      · unfold foldD at i2 ⊢
        rw [List.foldl_append, i2]
        simp only [List.foldl_cons, List.foldl_nil, hm]
        omega
theorem noNm_digit {r : List UInt8} (h : noNm r) : ∀ x xs, r = x :: xs → digitN x.toNat = false := fun x xs e => by
  have := h x xs e
  unfold nmN at this
  simp only [Bool.or_eq_false_iff] at this
  exact this.1.1.2
theorem varP_dr (s : ByteArray) (n : Int) (h0 : 0 ≤ n) (h1 : n < 1073741824) (a c : Nat) (r : List UInt8) (h : Dr s a (varW n ++ r)) (hr : noNm r) (hc : c + 1 ≤ 300) :
    varP s (a + 1) c = some (.mk 1 n ⟨#[]⟩ [], a + (varW n).length, c + 1) := by
  obtain ⟨m, rfl⟩ : ∃ m : Nat, n = (m : Int) := ⟨n.toNat, by omega⟩
  have hl : (UInt8.ofNat (97 + m % 26)).toNat = 97 + m % 26 := by rw [UInt8.toNat_ofNat']; omega
  unfold varW at h ⊢
  simp only [Int.toNat_natCast] at h ⊢
  obtain ⟨ds, hds⟩ : ∃ ds, ds = (if 26 ≤ (m : Int) then Lib.itoa ((m : Int) / 26) else []) := ⟨_, rfl⟩
  rw [← hds] at h ⊢
  have hd : (∀ x ∈ ds, digitN x.toNat = true) ∧ foldD 0 ds = m / 26 := by
    by_cases h26 : 26 ≤ (m : Int)
    · rw [if_pos h26] at hds
      have hi : Lib.itoa ((m : Int) / 26) = Lib.decDigits (m / 26) := by
        unfold Lib.itoa
        rw [if_neg (by omega)]
        congr 1
      rw [hds, hi]
      exact dec_digits _
    · rw [if_neg h26] at hds
      rw [hds]
      exact ⟨fun x hx => by simp at hx, by show 0 = m / 26; omega⟩
  rw [List.append_assoc] at h
  have hb := (h.next (l := [39]) : Dr s (a + 1) _)
  have hb2 : byteS s (a + 1) = (UInt8.ofNat (97 + m % 26)).toNat ∧ a + 1 < s.size := hb.byte
  rw [hl] at hb2
  have hdr : Dr s (a + 1 + 1) (ds ++ r) := hb.next (l := [UInt8.ofNat (97 + m % 26)])
  have hlen := hdr.len
  simp only [List.length_append] at hlen
  have hdg := digsF_dr s r (noNm_digit hr) ds s.size (a + 1 + 1) 0 hd.1 hdr (by rw [hd.2]; omega) (by omega)
  unfold varP
  rw [if_pos ⟨hb2.2, by rw [hb2.1]; unfold smallN; exact decide_eq_true (by omega)⟩, hdg]
  simp only
  unfold partP
  rw [if_pos hc, hd.2, hb2.1]
  simp only [List.length_append, List.length_cons, List.length_nil]
  rw [show a + 1 + 1 + ds.length = a + (0 + 1 + 1 + ds.length) by omega, show ((m / 26 * 26 + (97 + m % 26 - 97) : Nat) : Int) = (m : Int) by omega]

/-! rows -/
theorem listP_dr {s : ByteArray} (m : Nat → Nat → Option (Ty × Nat × Nat)) (wd : List UInt8) (g : Ty → List UInt8) (ok : List UInt8 → Prop) (hwd : ∀ x, ok (wd ++ x)) (r : List UInt8) (hr : ok r) (hp : wd.isPrefixOf r = false) :
    ∀ (us : List Ty) (f : Nat) (acc : List Ty) (a c : Nat), us.length ≤ f → (∀ t ∈ us, ∀ a c r', Dr s a (g t ++ r') → ok r' → c + t.parts ≤ 300 → m a c = some (t, a + (g t).length, c + t.parts)) →
      Dr s a ((us.flatMap fun t => wd ++ g t) ++ r) → c + partsL us ≤ 300 → listP m s wd f acc a c = some (acc ++ us, a + (us.flatMap fun t => wd ++ g t).length, c + partsL us)
  | [], f, acc, a, c, _, _, h, _ => by
    rw [List.flatMap_nil, List.nil_append] at h
    have hq : preB s wd a = false := by rw [h.preE]; exact hp
    cases f with
    | zero => simp [listP, partsL]
    | succ f => rw [listP, if_neg (by rw [hq]; simp)]; simp [partsL]
  | t :: us, 0, acc, a, c, hf, _, _, _ => by simp at hf
  | t :: us, f + 1, acc, a, c, hf, hm, h, hc => by
    simp only [List.flatMap_cons, List.append_assoc] at h
    simp only [partsL] at hc
    have h2 := h.next
    have hok : ok ((us.flatMap fun t => wd ++ g t) ++ r) := by
      cases us with
      | nil => simpa using hr
      | cons u us => simp only [List.flatMap_cons, List.append_assoc]; exact hwd _
    have ht := hm t List.mem_cons_self (a + wd.length) c _ h2 hok (by omega)
    rw [listP, if_pos h.pre, ht]
    simp only
    rw [listP_dr m wd g ok hwd r hr hp us f _ _ _ (by simpa using hf) (fun u hu => hm u (List.mem_cons_of_mem _ hu)) h2.next (by omega)]
    simp only [List.flatMap_cons, List.length_append, partsL, List.append_assoc, List.singleton_append]
    rw [show a + wd.length + (g t).length + (us.flatMap fun t => wd ++ g t).length = a + (wd.length + ((g t).length + (us.flatMap fun t => wd ++ g t).length)) by omega, show c + t.parts + partsL us = c + (t.parts + partsL us) by omega]
theorem manyP_dr {s : ByteArray} (m : Nat → Nat → Option (Ty × Nat × Nat)) (wd : List UInt8) (g : Ty → List UInt8) (ok : List UInt8 → Prop) (hwd : ∀ x, ok (wd ++ x)) (hw0 : 0 < wd.length) (r : List UInt8) (hr : ok r) (hp : wd.isPrefixOf r = false)
    (ts : List Ty) (h0 : ts ≠ []) (a c : Nat) (hm : ∀ t ∈ ts, ∀ a c r', Dr s a (g t ++ r') → ok r' → c + t.parts ≤ 300 → m a c = some (t, a + (g t).length, c + t.parts))
    (h : Dr s a (joinW wd (ts.map g) ++ r)) (hc : c + partsL ts ≤ 300) : manyP m s wd a c = some (ts, a + (joinW wd (ts.map g)).length, c + partsL ts) := by
  cases ts with
  | nil => exact absurd rfl h0
  | cons t us =>
    simp only [partsL] at hc
    have hj : joinW wd ((t :: us).map g) = g t ++ us.flatMap fun t => wd ++ g t := by
      simp only [List.map_cons, joinW]
      rw [List.flatMap_map]
    rw [hj, List.append_assoc] at h
    have hok : ok ((us.flatMap fun t => wd ++ g t) ++ r) := by
      cases us with
      | nil => simpa using hr
      | cons u us => simp only [List.flatMap_cons, List.append_assoc]; exact hwd _
    have ht := hm t List.mem_cons_self a c _ h hok (by omega)
    have hlen := h.next.len
    have hle : us.length ≤ (us.flatMap fun t => wd ++ g t).length := by
      clear hm h0 hc hj h hok ht hlen
      induction us with
      | nil => simp
      | cons u us ih => simp only [List.flatMap_cons, List.length_append, List.length_cons]; omega
    simp only [List.length_append] at hlen
    unfold manyP
    rw [ht]
    simp only
    rw [listP_dr m wd g ok hwd r hr hp us s.size [t] _ _ (by omega) (fun u hu => hm u (List.mem_cons_of_mem _ hu)) h.next (by omega), hj]
    simp only [List.length_append, partsL, List.singleton_append]
    rw [show a + (g t).length + (us.flatMap fun t => wd ++ g t).length = a + ((g t).length + (us.flatMap fun t => wd ++ g t).length) by omega, show c + t.parts + partsL us = c + (t.parts + partsL us) by omega]
end Go.Proofs.YtbhicpjhijondaaDoor
/- T38 -/
/- What is said is read again: plain. Second: the types. -/
namespace Go.Proofs.YtbhicpjhijondaaDoor
open Go.RowKit Go.Lib Go.Vfs Go.Par Go.Typ Go.Shelf
set_option linter.unusedVariables false
set_option linter.unusedSimpArgs false

/-- what may stand behind a type, a row of types with stars between, a type with its names. -/
def stopA (r : List UInt8) : Prop := r = [] ∨ (∃ x, r = 41 :: x) ∨ ∃ x, r = 44 :: 32 :: x
def stopP (r : List UInt8) : Prop := stopA r ∨ ∃ x, r = 32 :: 45 :: 62 :: 32 :: x
def stopN (r : List UInt8) : Prop := stopP r ∨ ∃ x, r = 32 :: 42 :: 32 :: x
theorem noNm_cons {x : UInt8} {r : List UInt8} (h : nmN true x.toNat = false) : noNm (x :: r) := fun y ys e => by
  cases e; exact h
theorem stopN.noNm {r : List UInt8} (h : stopN r) : noNm r := by
  rcases h with ((rfl | ⟨x, rfl⟩ | ⟨x, rfl⟩) | ⟨x, rfl⟩) | ⟨x, rfl⟩
  · intro x xs e; cases e
  all_goals exact noNm_cons (by decide)
theorem stopN.end_ {s : ByteArray} {r : List UInt8} (h : stopN r) {a : Nat} (hd : Dr s a r) : ¬ (a + 1 < s.size ∧ byteS s a = 32 ∧ nmN true (byteS s (a + 1)) = true) := by
  rintro ⟨h1, h2, h3⟩
  rcases h with ((rfl | ⟨x, rfl⟩ | ⟨x, rfl⟩) | ⟨x, rfl⟩) | ⟨x, rfl⟩
  · have := hd.len; simp at this; omega
  · rw [hd.byte.1] at h2; exact absurd h2 (by decide)
  · rw [hd.byte.1] at h2; exact absurd h2 (by decide)
  all_goals
    have hb := (hd.next (l := [32])).byte
    rw [show a + [(32 : UInt8)].length = a + 1 from rfl] at hb
    rw [hb.1] at h3
    exact absurd h3 (by decide)
theorem stopP.star {r : List UInt8} (h : stopP r) : ([32, 42, 32] : List UInt8).isPrefixOf r = false := by
  rcases h with (rfl | ⟨x, rfl⟩ | ⟨x, rfl⟩) | ⟨x, rfl⟩ <;> simp [List.isPrefixOf]
theorem stopA.arrow {r : List UInt8} (h : stopA r) : ([32, 45, 62, 32] : List UInt8).isPrefixOf r = false := by
  rcases h with rfl | ⟨x, rfl⟩ | ⟨x, rfl⟩ <;> simp [List.isPrefixOf]

def AL (s : ByteArray) (T : Ty) : Prop := ∀ (f a c : Nat) (r : List UInt8), T.parts ≤ f → Dr s a (sayT T ++ r) → stopA r → c + T.parts ≤ 300 → arrowP s f a c = some (T, a + (sayT T).length, c + T.parts)
def NL (s : ByteArray) (T : Ty) : Prop := ∀ (g a c : Nat) (r : List UInt8), T.parts ≤ g + (if pairB T = true then 0 else 1) → Dr s a (insT T ++ r) → noNm r → c + T.parts ≤ 300 →
  ∃ f', s.size ≤ f' + (a + (insT T).length) ∧ namedP (arrowP s g) s a c = namL s f' T (a + (insT T).length) (c + T.parts)
def parT (T : Ty) : List UInt8 := wrapB (decide (T.kind = 4)) (sayT T)
def PL (s : ByteArray) (T : Ty) : Prop := ∀ (g a c : Nat) (r : List UInt8), T.parts ≤ g + (if T.kind = 4 then 0 else 1) → Dr s a (parT T ++ r) → stopP r → c + T.parts ≤ 300 → pairP (arrowP s g) s a c = some (T, a + (parT T).length, c + T.parts)

theorem NL.stop {s : ByteArray} {T : Ty} (h : NL s T) {g a c : Nat} {r : List UInt8} (hg : T.parts ≤ g + (if pairB T = true then 0 else 1)) (hd : Dr s a (insT T ++ r)) (hr : stopN r) (hc : c + T.parts ≤ 300) :
    namedP (arrowP s g) s a c = some (T, a + (insT T).length, c + T.parts) := by
  obtain ⟨f', _, h2⟩ := h g a c r hg hd hr.noNm hc
  rw [h2, namL_end (hr.end_ hd.next)]
/-- types in brackets. -/
theorem many_al {s : ByteArray} {ts : List Ty} (h0 : ts ≠ []) (h : ∀ t ∈ ts, AL s t) {g a c : Nat} {r : List UInt8} (hg : ∀ t ∈ ts, t.parts ≤ g) (hd : Dr s a (joinW [44, 32] (ts.map sayT) ++ 41 :: r)) (hc : c + partsL ts ≤ 300) :
    manyP (arrowP s g) s [44, 32] a c = some (ts, a + (joinW [44, 32] (ts.map sayT)).length, c + partsL ts) :=
  manyP_dr (arrowP s g) [44, 32] sayT (fun r => (∃ x, r = 41 :: x) ∨ ∃ x, r = 44 :: 32 :: x) (fun x => Or.inr ⟨x, rfl⟩) (by decide) (41 :: r) (Or.inl ⟨r, rfl⟩) (by simp [List.isPrefixOf]) ts h0 a c
    (fun t ht a c r' hd' hr' hc' => h t ht g a c r' (hg t ht) hd' (Or.inr hr') hc') hd hc
theorem al_brackets {s : ByteArray} {T : Ty} (h : AL s T) (hp : pairB T = true) : NL s T := by
  intro g a c r hg hd hr hc
  rw [if_pos hp] at hg
  have hi : insT T = 40 :: (sayT T ++ [41]) := by unfold insT wrapB; rw [hp]; rfl
  rw [hi] at hd ⊢
  rw [List.cons_append] at hd
  have h39 : preB s [39] a = false := by rw [hd.preE]; simp [List.isPrefixOf]
  have h40 : preB s [40] a = true := hd.pre (wd := [40])
  have hd1 : Dr s (a + 1) (sayT T ++ [41] ++ r) := hd.next (l := [40])
  rw [List.append_assoc] at hd1
  have hm := many_al (s := s) (ts := [T]) (by simp) (fun t ht => by rw [List.mem_singleton.1 ht]; exact h) (g := g) (a := a + 1) (c := c) (r := r) (fun t ht => by rw [List.mem_singleton.1 ht]; omega)
    (by simpa [joinW] using hd1) (by simpa [partsL] using hc)
  have hj : joinW [44, 32] ([T].map sayT) = sayT T := by simp [joinW]
  rw [hj] at hm
  have h41 : preB s [41] (a + 1 + (sayT T).length) = true := (hd1.next).pre (wd := [41])
  refine ⟨s.size, by omega, ?_⟩
  unfold namedP firstP
  rw [if_neg (by rw [h39]; decide), if_pos h40, hm]
  simp only [closeP, h41, if_true, List.length_singleton, List.getD_cons_zero, partsL, List.length_cons, List.length_append, List.length_nil]
  rw [show a + 1 + (sayT T).length + 1 = a + ((sayT T).length + (0 + 1) + 1) by omega, show c + (T.parts + 0) = c + T.parts by omega]
theorem NL.pair {s : ByteArray} {T : Ty} (h : NL s T) (hk : T.kind ≠ 3) : PL s T := by
  intro g a c r hg hd hr hc
  have hp : pairB T = decide (T.kind = 4) := by unfold pairB; rw [decide_eq_false hk, Bool.false_or]
  have hi : insT T = parT T := by unfold insT parT; rw [hp]
  have hg' : T.parts ≤ g + (if pairB T = true then 0 else 1) := by rw [hp]; simpa using hg
  have hm := manyP_dr (s := s) (namedP (arrowP s g) s) [32, 42, 32] insT stopN (fun x => Or.inr ⟨x, rfl⟩) (by decide) r (Or.inl hr) hr.star [T] (by simp) a c
    (fun t ht a c r' hd' hr' hc' => by have e := List.mem_singleton.1 ht; subst e; exact h.stop hg' hd' hr' hc') (by rw [← hi] at hd; simpa [joinW] using hd) (by simpa [partsL] using hc)
  have hj : joinW [32, 42, 32] ([T].map insT) = parT T := by simp [joinW, hi]
  rw [hj] at hm
  unfold pairP
  rw [hm, starP_some, if_pos (by rfl)]
  simp [partsL]
theorem PL.al {s : ByteArray} {T : Ty} (h : PL s T) (hk : T.kind ≠ 4) : AL s T := by
  intro f a c r hf hd hr hc
  have hp := T.parts_pos
  obtain ⟨g, rfl⟩ : ∃ g, f = g + 1 := ⟨f - 1, by omega⟩
  have hi : parT T = sayT T := by unfold parT; rw [decide_eq_false hk]; rfl
  have hg := h g a c r (by rw [if_neg hk]; exact hf) (by rw [hi]; exact hd) (Or.inl hr) hc
  rw [hi] at hg
  have hn : preB s [32, 45, 62, 32] (a + (sayT T).length) = false := by rw [(hd.next).preE]; exact hr.arrow
  rw [arrowP]
  unfold arr1
  rw [hg]
  simp [hn]
theorem name_byte {nm : ByteArray} (h : nameOk nm.data.toList = true) (r : List UInt8) : ∃ c cs, nm.data.toList ++ r = c :: cs ∧ nmN true c.toNat = true ∧ c ≠ 39 ∧ c ≠ 40 := by
  obtain ⟨h1, c, cs, h2, h3⟩ := nameOk_all h
  refine ⟨c, cs ++ r, by rw [h2]; rfl, h1 c (by rw [h2]; exact List.mem_cons_self), ?_, ?_⟩
  · rintro rfl; exact absurd h3 (by decide)
  · rintro rfl; exact absurd h3 (by decide)
theorem nl_var {s : ByteArray} {n : Int} (h0 : 0 ≤ n) (h1 : n < 1073741824) : NL s (.mk 1 n ⟨#[]⟩ []) := by
  intro g a c r hg hd hr hc
  have hi : insT (.mk 1 n ⟨#[]⟩ []) = varW n := by unfold insT wrapB pairB; simp [Ty.kind, sayT]
  rw [hi] at hd ⊢
  have hp : (Ty.mk 1 n ⟨#[]⟩ []).parts = 1 := rfl
  rw [hp] at hc ⊢
  have h39 : preB s [39] a = true := by
    unfold varW at hd
    rw [List.append_assoc] at hd
    exact hd.pre (wd := [39]) (l := UInt8.ofNat (97 + n.toNat % 26) :: ((if 26 ≤ n then Lib.itoa (n / 26) else []) ++ r))
  refine ⟨s.size, by omega, ?_⟩
  unfold namedP firstP
  rw [if_pos h39, varP_dr s n h0 h1 a c r hd hr hc]
theorem nl_con {s : ByteArray} {nm : ByteArray} {ts : List Ty} (hn : nameOk nm.data.toList = true) (hA : ∀ t ∈ ts, AL s t ∧ NL s t) : NL s (.mk 2 0 nm ts) := by
  intro g a c r hg hd hr hc
  have hpB : pairB (.mk 2 0 nm ts) = false := rfl
  rw [hpB] at hg
  simp only [Ty.parts, Bool.false_eq_true, if_false] at hg hc ⊢
  have hin : insT (.mk 2 0 nm ts) = sayT (.mk 2 0 nm ts) := by unfold insT wrapB; rw [hpB]; rfl
  rw [hin] at hd ⊢
  cases ts with
  | nil =>
    have hs : sayT (.mk 2 0 nm []) = nm.data.toList := by simp [sayT]
    rw [hs] at hd ⊢
    obtain ⟨x, xs, hx, hxn, x1, x2⟩ := name_byte hn r
    have h39 : preB s [39] a = false := by rw [hd.preE, hx]; simp [List.isPrefixOf]; exact fun h => x1 h.symm
    have h40 : preB s [40] a = false := by rw [hd.preE, hx]; simp [List.isPrefixOf]; exact fun h => x2 h.symm
    have he := nmEnd_dr hd (nameOk_all hn).1 hr
    refine ⟨s.size, by omega, ?_⟩
    unfold namedP firstP
    rw [if_neg (by rw [h39]; decide), if_neg (by rw [h40]; decide), he, extract_dr hd]
    unfold partP
    rw [if_pos (by simp only [partsL] at hc; omega)]
    simp only [partsL]
  | cons t us =>
    cases us with
    | nil =>
      have hs : sayT (.mk 2 0 nm [t]) = insT t ++ (32 :: nm.data.toList) := by
        rw [sayT, if_neg (by decide), if_pos rfl, if_pos (by rfl), if_neg (by simp), insW_map]
        simp [joinW]
      rw [hs] at hd ⊢
      rw [List.append_assoc, List.cons_append] at hd
      simp only [partsL, Nat.add_zero] at hg hc ⊢
      obtain ⟨f', hf, hnm⟩ := (hA t List.mem_cons_self).2 g a c _ (by omega) hd (noNm_cons (by decide)) (by omega)
      have hd1 := hd.next
      have hb := hd1.byte
      have hd2 : Dr s (a + (insT t).length + 1) (nm.data.toList ++ r) := hd1.next (l := [32])
      obtain ⟨x, xs, hx, hxn, x1, x2⟩ := name_byte hn r
      have hb2 : byteS s (a + (insT t).length + 1) = x.toNat ∧ a + (insT t).length + 1 < s.size := by
        rw [hx] at hd2; exact hd2.byte
      have he := nmEnd_dr hd2 (nameOk_all hn).1 hr
      obtain ⟨f, rfl⟩ : ∃ f, f' = f + 1 := ⟨f' - 1, by omega⟩
      rw [hnm, namL, if_pos ⟨hb2.2, hb.1, by rw [hb2.1]; exact hxn⟩, he, extract_dr hd2]
      refine ⟨f, ?_, ?_⟩
      · simp only [List.length_append, List.length_cons]; omega
      · unfold partP
        rw [if_pos (by omega)]
        simp only [List.length_append, List.length_cons]
        rw [show a + (insT t).length + 1 + nm.data.toList.length = a + ((insT t).length + (nm.data.toList.length + 1)) by omega, show c + t.parts + 1 = c + (1 + t.parts) by omega]
    | cons u vs =>
      obtain ⟨ts, hts⟩ : ∃ ts, ts = t :: u :: vs := ⟨_, rfl⟩
      have hl : 2 ≤ ts.length := by rw [hts]; simp
      rw [← hts] at hA hg hc hd ⊢
      clear hts
      have hs : sayT (.mk 2 0 nm ts) = 40 :: (joinW [44, 32] (ts.map sayT) ++ 41 :: 32 :: nm.data.toList) := by
        rw [sayT, if_neg (by decide), if_pos rfl, if_neg (by omega), if_neg (by omega), if_neg (by omega), sayL_map]
        simp
      rw [hs] at hd ⊢
      rw [List.cons_append, List.append_assoc, List.cons_append, List.cons_append] at hd
      have h39 : preB s [39] a = false := by rw [hd.preE]; simp [List.isPrefixOf]
      have h40 : preB s [40] a = true := hd.pre (wd := [40])
      have hd1 : Dr s (a + 1) _ := hd.next (l := [40])
      have hm := many_al (g := g) (a := a + 1) (c := c) (by intro h; rw [h] at hl; simp at hl) (fun t ht => (hA t ht).1) (fun t ht => by have := parts_mem ht; omega) hd1 (by omega)
      have hd2 := hd1.next
      have hd3 : Dr s (a + 1 + (joinW [44, 32] (ts.map sayT)).length + 1) (32 :: (nm.data.toList ++ r)) := hd2.next (l := [41])
      have hd4 : Dr s (a + 1 + (joinW [44, 32] (ts.map sayT)).length + 2) (nm.data.toList ++ r) := hd3.next (l := [32])
      have h41 := hd2.pre (wd := [41])
      have h32 := hd3.pre (wd := [32])
      have he := nmEnd_dr hd4 (nameOk_all hn).1 hr
      refine ⟨s.size, by omega, ?_⟩
      unfold namedP firstP
      rw [if_neg (by rw [h39]; decide), if_pos h40, hm]
      simp only [closeP]
      rw [if_pos h41, if_neg (by omega), if_pos h32, he, extract_dr hd4]
      unfold partP
      rw [if_pos (by omega)]
      simp only [List.length_append, List.length_cons]
      rw [show a + 1 + (joinW [44, 32] (ts.map sayT)).length + 2 + nm.data.toList.length = a + ((joinW [44, 32] (ts.map sayT)).length + (nm.data.toList.length + 1 + 1) + 1) by omega, show c + partsL ts + 1 = c + (1 + partsL ts) by omega]
theorem pl_pair {s : ByteArray} {ts : List Ty} (hl : 2 ≤ ts.length) (hA : ∀ t ∈ ts, NL s t) : PL s (.mk 3 0 ⟨#[]⟩ ts) := by
  intro g a c r hg hd hr hc
  have hs : parT (.mk 3 0 ⟨#[]⟩ ts) = joinW [32, 42, 32] (ts.map insT) := by
    have hk : decide ((Ty.mk 3 0 ⟨#[]⟩ ts).kind = 4) = false := rfl
    unfold parT
    rw [hk]
    show sayT (.mk 3 0 ⟨#[]⟩ ts) = _
    rw [sayT, if_neg (by decide), if_neg (by decide), if_pos rfl, insW_map]
  rw [hs] at hd ⊢
  have hk4 : ¬ (Ty.mk 3 0 ⟨#[]⟩ ts).kind = 4 := by show ¬ (3 : Int) = 4; decide
  rw [if_neg hk4] at hg
  simp only [Ty.parts] at hg hc ⊢
  have hm := manyP_dr (s := s) (namedP (arrowP s g) s) [32, 42, 32] insT stopN (fun x => Or.inr ⟨x, rfl⟩) (by decide) r (Or.inl hr) hr.star ts (by intro h; rw [h] at hl; simp at hl) a c
    (fun t ht a c r' hd' hr' hc' => (hA t ht).stop (by have := parts_mem ht; omega) hd' hr' hc') hd (by omega)
  unfold pairP
  rw [hm, starP_some, if_neg (by omega)]
  unfold partP
  rw [if_pos (by omega), show c + partsL ts + 1 = c + (1 + partsL ts) by omega]
theorem al_arrow {s : ByteArray} {x y : Ty} (hx : PL s x) (hy : AL s y) : AL s (.mk 4 0 ⟨#[]⟩ [x, y]) := by
  intro f a c r hf hd hr hc
  simp only [Ty.parts, partsL, Nat.add_zero] at hf hc ⊢
  obtain ⟨g, rfl⟩ : ∃ g, f = g + 1 := ⟨f - 1, by omega⟩
  have hxp := x.parts_pos
  have hyp := y.parts_pos
  have hs : sayT (.mk 4 0 ⟨#[]⟩ [x, y]) = parT x ++ (32 :: 45 :: 62 :: 32 :: sayT y) := by
    rw [sayT, if_neg (by decide), if_neg (by decide), if_neg (by decide), if_pos rfl, sayL_map]
    unfold parT
    simp
  rw [hs] at hd ⊢
  rw [List.append_assoc] at hd
  have h1 := hx g a c _ (by omega) hd (Or.inr ⟨_, rfl⟩) (by omega)
  have hd1 := hd.next
  have h2 := hd1.pre (wd := [32, 45, 62, 32])
  have hd2 : Dr s (a + (parT x).length + 4) (sayT y ++ r) := hd1.next (l := [32, 45, 62, 32])
  have h3 := hy g (a + (parT x).length + 4) (c + x.parts) r (by omega) hd2 hr (by omega)
  rw [arrowP]
  unfold arr1
  rw [h1]
  simp only
  rw [if_pos h2, h3]
  simp only
  unfold partP
  rw [if_pos (by omega)]
  simp only [List.length_append, List.length_cons]
  rw [show a + (parT x).length + 4 + (sayT y).length = a + ((parT x).length + ((sayT y).length + 1 + 1 + 1 + 1)) by omega, show c + x.parts + y.parts + 1 = c + (1 + (x.parts + y.parts)) by omega]
theorem fitAll_mem {T a : Ty} (h : FitAll T) (ha : a ∈ T.args) : FitAll a := fun x hx => h x (by
  rw [T.list_eq]
  exact List.mem_cons_of_mem _ (mem_listL ha hx))
theorem ba_nil {s : ByteArray} (h : s.toList = []) : s = ⟨#[]⟩ := by
  apply ByteArray.ext
  apply Array.toList_inj.mp
  rw [← ByteArray.toList_eq]
  exact h
theorem all_al (s : ByteArray) : ∀ (n : Nat) (T : Ty), T.parts ≤ n → FitAll T → AL s T ∧ NL s T ∧ PL s T := by
  intro n
  induction n with
  | zero => intro T h; have := T.parts_pos; omega
  | succ n ih =>
    intro T hp hF
    have hi : ∀ t ∈ T.args, AL s t ∧ NL s t ∧ PL s t := fun t ht => ih t (by have := parts_mem ht; have := T.parts_eq; omega) (fitAll_mem hF ht)
    have hf := hF.self
    clear hp hF ih
    obtain ⟨k, m, nm, ts⟩ := T
    have hf := fits_kinds hf
    simp only [Ty.kind, Ty.num, Ty.name, Ty.args] at hf hi
    rcases hf with ⟨rfl, h0, h1, h2, h3⟩ | ⟨rfl, rfl, h1⟩ | ⟨rfl, rfl, h1, h2⟩ | ⟨rfl, rfl, h1, h2⟩
    · obtain rfl := List.eq_nil_of_length_eq_zero h3
      obtain rfl := ba_nil h2
      have hN : NL s (.mk 1 m ⟨#[]⟩ []) := nl_var h0 h1
      have hP := hN.pair (by simp [Ty.kind])
      exact ⟨hP.al (by simp [Ty.kind]), hN, hP⟩
    · have hN : NL s (.mk 2 0 nm ts) := nl_con h1 fun t ht => ⟨(hi t ht).1, (hi t ht).2.1⟩
      have hP := hN.pair (by simp [Ty.kind])
      exact ⟨hP.al (by simp [Ty.kind]), hN, hP⟩
    · obtain rfl := ba_nil h1
      have hP : PL s (.mk 3 0 ⟨#[]⟩ ts) := pl_pair h2 fun t ht => (hi t ht).2.1
      have hA := hP.al (by simp [Ty.kind])
      exact ⟨hA, al_brackets hA rfl, hP⟩
    · obtain rfl := ba_nil h1
      obtain ⟨x, y, rfl⟩ : ∃ x y, ts = [x, y] := by
        match ts, h2 with
        | [x, y], _ => exact ⟨x, y, rfl⟩
      have hA : AL s (.mk 4 0 ⟨#[]⟩ [x, y]) := al_arrow (hi x List.mem_cons_self).2.2 (hi y (List.mem_cons_of_mem _ List.mem_cons_self)).1
      have hN := al_brackets hA rfl
      exact ⟨hA, hN, hN.pair (by simp [Ty.kind])⟩
/-- what is said of a right type is read as that type. -/
theorem read_say {T : Ty} (h : rightT T = true) {s : ByteArray} (hs : s.data.toList = sayT T) : readT s = some T := by
  obtain ⟨hp, hF⟩ := rightT_iff.1 h
  have hd : Dr s 0 (sayT T ++ []) := ⟨by rw [List.drop_zero, List.append_nil]; exact hs, Nat.zero_le _⟩
  have hl := hd.len
  rw [List.append_nil] at hl
  unfold readT
  rw [(all_al s _ T (Nat.le_refl _) hF).1 301 0 0 [] (by omega) hd (Or.inl rfl) (by omega)]
  simp only
  rw [if_pos hl.symm, if_pos ⟨h, hs.symm⟩]
end Go.Proofs.YtbhicpjhijondaaDoor
/- T39 -/
/- law12.great: the walk; what is not great: plain. -/
namespace Go.Proofs.YtbhicpjhijondaaDoor
open Go.RowKit Go.Lib Go.Vfs Go.Par Go.Typ Go.Shelf
set_option linter.unusedVariables false
set_option linter.unusedSimpArgs false

/-- is it not too heavy? -/
def lightT (T : Ty) : Bool := decide (weightT T 1000 ≤ 1000)
theorem weightL_light : ∀ (ts : List Ty), (∀ t ∈ ts, ∀ most : Int, weightT t most ≤ most → (t.parts : Int) ≤ weightT t most ∧ NmB (16 * (weightT t most).toNat) t) → ∀ (most n : Int), 0 ≤ n → weightL ts most n ≤ most →
    n + partsL ts ≤ weightL ts most n ∧ ∀ t ∈ ts, NmB (16 * (weightL ts most n).toNat) t
  | [], _, most, n, h0, h => by
    simp only [weightL, partsL]
    exact ⟨by omega, fun t ht => by simp at ht⟩
  | t :: ts, hi, most, n, h0, h => by
    simp only [weightL, partsL] at h ⊢
    by_cases hn : n ≤ most
    · rw [if_pos hn] at h ⊢
      by_cases hw : weightT t (most - n) ≤ most - n
      · obtain ⟨a1, a2⟩ := hi t List.mem_cons_self _ hw
        have ht0 := t.parts_pos
        obtain ⟨b1, b2⟩ := weightL_light ts (fun u hu => hi u (List.mem_cons_of_mem _ hu)) most (n + weightT t (most - n)) (by omega) h
        refine ⟨by push_cast; omega, fun u hu => ?_⟩
        rcases List.mem_cons.1 hu with rfl | hu
        · exact fun x hx => Nat.le_trans (a2 x hx) (by omega)
        · exact b2 u hu
      · rw [weightL_stop (by omega)] at h
        omega
    · rw [if_neg hn] at h
      omega
theorem weightT_light (T : Ty) : ∀ most : Int, weightT T most ≤ most → (T.parts : Int) ≤ weightT T most ∧ NmB (16 * (weightT T most).toNat) T := by
  induction T using Ty.ind with
  | h T ih =>
    intro most h
    rw [weightT_eq] at h ⊢
    obtain ⟨h1, h2⟩ := weightL_light T.args (fun t ht => by obtain ⟨i, hi, rfl⟩ := List.getElem_of_mem ht; exact ih i hi) most (1 + (T.name.size : Int) / 16) (by omega) h
    rw [T.parts_eq]
    refine ⟨by push_cast; omega, ?_⟩
    have key : NmB (16 * (weightL T.args most (1 + (T.name.size : Int) / 16)).toNat) (.mk T.kind T.num T.name T.args) := NmB.mk (by omega) h2
    rw [← T.eta] at key
    exact key
theorem light_parts {T : Ty} (h : lightT T = true) : T.parts ≤ 1000 ∧ NmB 16000 T := by
  have h := of_decide_eq_true h
  obtain ⟨h1, h2⟩ := weightT_light T 1000 h
  exact ⟨by omega, fun x hx => Nat.le_trans (h2 x hx) (by omega)⟩
theorem light_say {T : Ty} (h : lightT T = true) (hr : rightT T = true) : (sayT T).length ≤ 6000000 := by
  obtain ⟨hp, hF⟩ := rightT_iff.1 hr
  have := say_le 16000 T hF (light_parts h).2
  have h2 : T.parts * (16000 + 40) ≤ 300 * (16000 + 40) := Nat.mul_le_mul_right _ hp
  omega

set_option maxRecDepth 20000 in
set_option maxHeartbeats 1000000 in
theorem great12_any (T : Ty) (v : Value) (w : World) (hT : TyAt (· < w.heap.size) w v T) :
    Calls Tryd.prog 16 #[v] w fun e w' => e = .returned (.bool (!lightT T)) ∧ Below w.heap.size w w' := by
  obtain ⟨A, c, rfl, hc, hm, hn⟩ := hT.form
  obtain ⟨W1, hW1⟩ : ∃ W1, W1 = w.alloc (.cells #[.int .i64 T.kind, .int .i64 T.num, .string T.name, .slice A T.args.length c] 24) := ⟨_, rfl⟩
  have hb1 : Below w.heap.size w W1 := by rw [hW1]; exact (Below.refl _ _).alloc (Nat.le_refl _) _
  have HW := Lib.hid (weight_any T _ 1000 W1 (hT.blw hb1) (by decide) (by decide))
  have HB1 := Lib.hid hb1
  obtain ⟨y0, y1, y2, y3⟩ := box4 (show W1.heap[w.heap.size]? = some (.cells #[.int .i64 T.kind, .int .i64 T.num, .string T.name, .slice A T.args.length c] 24 (0, 0)) by rw [hW1]; exact heap_alloc_new _ _)
  have hle : (!lightT T) = decide (1000 < weightT T 1000) := by
    unfold lightT
    rw [← decide_not]
    exact decide_eq_decide.2 Int.not_le
  rw [hle]
  rw [hW1] at y0 y1 y2 y3
  clear hle hT hc hm hn hb1
  unfold tyV at HW ⊢
  go_enter Tryd.func16, Tryd.ntmps16
  go_wp2_with fail
  rw [← hW1]
  clear hW1 y0 y1 y2 y3
  refine HW.out.mono ?_
  rintro e w1 ⟨rfl, hb⟩
  have HB := Lib.hid (HB1.out.trans (hb.mono HB1.out.size))
  clear hb
  go_wp2
  go_ret
  exact ⟨rfl, HB.out⟩
end Go.Proofs.YtbhicpjhijondaaDoor
