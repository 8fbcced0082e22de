/- What is said is read again: plain. First: words, names, variables, rows. -/
import Derived.Test.YtbhicpjhijondaaDoorT30
namespace Go.Proofs.YtbhicpjhijondaaDoor
open Go.RowKit Go.Lib Go.Vfs Go.Par Go.Typ Go.Shelf
set_option linter.unusedVariables false
set_option linter.unusedSimpArgs false

/-- these bytes stand there, to the end. -/
def Dr (s : ByteArray) (a : Nat) (l : List UInt8) : Prop := s.data.toList.drop a = l ∧ a ≤ s.size
theorem Dr.next {s : ByteArray} {a : Nat} {l r : List UInt8} (h : Dr s a (l ++ r)) : Dr s (a + l.length) r := by
  obtain ⟨h, ha⟩ := h
  have hl : (s.data.toList.drop a).length = s.size - a := by rw [List.length_drop, name_len]
  rw [h, List.length_append] at hl
  refine ⟨?_, by omega⟩
  rw [← List.drop_drop, h, List.drop_left]
theorem Dr.len {s : ByteArray} {a : Nat} {l : List UInt8} (h : Dr s a l) : s.size = a + l.length := by
  obtain ⟨h, ha⟩ := h
  have hl : (s.data.toList.drop a).length = s.size - a := by rw [List.length_drop, name_len]
  rw [h] at hl
  omega
theorem Dr.byte {s : ByteArray} {a : Nat} {x : UInt8} {l : List UInt8} (h : Dr s a (x :: l)) : byteS s a = x.toNat ∧ a < s.size := by
  have hl := h.len
  simp only [List.length_cons] at hl
  refine ⟨?_, by omega⟩
  unfold byteS
  have h1 : s.data.toList.drop a = x :: l := h.1
  have h2 : (s.data.toList.drop a)[0]? = some x := by rw [h1]; rfl
  rw [List.getElem?_drop, Nat.add_zero] at h2
  rw [List.getD_eq_getElem?_getD, h2]; rfl
theorem Dr.pre {s : ByteArray} {a : Nat} {wd l : List UInt8} (h : Dr s a (wd ++ l)) : preB s wd a = true := by
  unfold preB
  rw [h.1, List.isPrefixOf_iff_prefix]
  exact List.prefix_append _ _
theorem Dr.preE {s : ByteArray} {a : Nat} {wd l : List UInt8} (h : Dr s a l) : preB s wd a = wd.isPrefixOf l := by
  unfold preB
  rw [h.1]
/-- no byte of a name stands ahead. -/
def noNm (r : List UInt8) : Prop := ∀ x xs, r = x :: xs → nmN true x.toNat = false
theorem takeWhile_all {p : UInt8 → Bool} : ∀ (nm r : List UInt8), (∀ x ∈ nm, p x = true) → (∀ x xs, r = x :: xs → p x = false) → (nm ++ r).takeWhile p = nm
  | [], r, _, h => by
    cases r with
    | nil => rfl
    | cons x xs => rw [List.nil_append, List.takeWhile_cons, h x xs rfl]; rfl
  | y :: nm, r, h1, h2 => by
    rw [List.cons_append, List.takeWhile_cons, h1 y List.mem_cons_self, if_pos rfl, takeWhile_all nm r (fun x hx => h1 x (List.mem_cons_of_mem _ hx)) h2]
theorem nmEnd_dr {s : ByteArray} {a : Nat} {nm r : List UInt8} (h : Dr s a (nm ++ r)) (h1 : ∀ x ∈ nm, nmN true x.toNat = true) (h2 : noNm r) : nmEnd s a = a + nm.length := by
  unfold nmEnd
  rw [h.1, takeWhile_all nm r h1 h2]
theorem extract_dr {s name : ByteArray} {a : Nat} {r : List UInt8} (h : Dr s a (name.data.toList ++ r)) : s.extract a (a + name.data.toList.length) = name := by
  apply ByteArray.ext
  apply Array.toList_inj.mp
  rw [Lib.extract_data, h.1, Nat.add_sub_cancel_left, List.take_left]
theorem nameOk_all {l : List UInt8} (h : nameOk l = true) : (∀ x ∈ l, nmN true x.toNat = true) ∧ ∃ c cs, l = c :: cs ∧ (smallN c.toNat || decide (c.toNat = 95)) = true := by
  cases l with
  | nil => simp [nameOk] at h
  | cons c cs =>
    simp only [nameOk, Bool.and_eq_true] at h
    exact ⟨fun x hx => List.all_eq_true.1 h.1.2 x hx, c, cs, rfl, h.1.1⟩

/-! variables -/
def foldD (t : Nat) (ds : List UInt8) : Nat := ds.foldl (fun t d => t * 10 + (d.toNat - 48)) t
theorem foldD_ge : ∀ (ds : List UInt8) (t : Nat), t ≤ foldD t ds
  | [], t => Nat.le_refl _
  | d :: ds, t => by
    have := foldD_ge ds (t * 10 + (d.toNat - 48))
    show t ≤ foldD (t * 10 + (d.toNat - 48)) ds
    omega
theorem digsF_dr (s : ByteArray) (r : List UInt8) (hr : ∀ x xs, r = x :: xs → digitN x.toNat = false) : ∀ (ds : List UInt8) (f k t : Nat), (∀ x ∈ ds, digitN x.toNat = true) → Dr s k (ds ++ r) → foldD t ds ≤ 1073741824 → ds.length ≤ f →
    digsF s f k t = some (k + ds.length, foldD t ds)
  | [], f, k, t, _, h, _, _ => by
    refine digsF_end fun hx => ?_
    rw [List.nil_append] at h
    cases r with
    | nil => have := h.len; simp at this; omega
    | cons x xs => rw [h.byte.1, hr x xs rfl] at hx; simp at hx
  | d :: ds, 0, k, t, _, _, _, hf => by simp at hf
  | d :: ds, f + 1, k, t, hd, h, hb, hf => by
    rw [List.cons_append] at h
    have hbt := h.byte
    have hdd := hd d List.mem_cons_self
    have hb' : foldD (t * 10 + (d.toNat - 48)) ds ≤ 1073741824 := hb
    have hge := foldD_ge ds (t * 10 + (d.toNat - 48))
    rw [digsF, if_pos ⟨hbt.2, by rw [hbt.1]; exact hdd⟩, hbt.1, if_neg (by omega), digsF_dr s r hr ds f (k + 1) _ (fun x hx => hd x (List.mem_cons_of_mem _ hx)) (h.next (l := [d])) hb' (by simpa using hf)]
    simp only [List.length_cons, foldD, List.foldl_cons]
    rw [show k + 1 + ds.length = k + (ds.length + 1) by omega]
theorem dec_digits (u : Nat) : (∀ x ∈ Lib.decDigits u, digitN x.toNat = true) ∧ foldD 0 (Lib.decDigits u) = u := by
  induction u using Nat.strongRecOn with
  | _ u ih =>
    have key : ∀ v, v < 10 → (UInt8.ofNat (48 + v)).toNat = 48 + v := fun v hv => by
      rw [UInt8.toNat_ofNat']; omega
    by_cases h : u < 10
    · rw [Lib.decDigits, dif_pos h]
      refine ⟨fun x hx => ?_, ?_⟩
      · rw [List.mem_singleton.1 hx, key u h]; unfold digitN; exact decide_eq_true (by omega)
      · show 0 * 10 + ((UInt8.ofNat (48 + u)).toNat - 48) = u
        rw [key u h]; omega
    · rw [Lib.decDigits, dif_neg h]
      obtain ⟨i1, i2⟩ := ih (u / 10) (by omega)
      have hm := key (u % 10) (by omega)
      refine ⟨fun x hx => ?_, ?_⟩
      · rcases List.mem_append.1 hx with hx | hx
        · exact i1 x hx
        · rw [List.mem_singleton.1 hx, hm]; unfold digitN; exact decide_eq_true (by omega)
      · unfold foldD at i2 ⊢
        rw [List.foldl_append, i2]
        simp only [List.foldl_cons, List.foldl_nil, hm]
        omega
theorem noNm_digit {r : List UInt8} (h : noNm r) : ∀ x xs, r = x :: xs → digitN x.toNat = false := fun x xs e => by
  have := h x xs e
  unfold nmN at this
  simp only [Bool.or_eq_false_iff] at this
  exact this.1.1.2
theorem varP_dr (s : ByteArray) (n : Int) (h0 : 0 ≤ n) (h1 : n < 1073741824) (a c : Nat) (r : List UInt8) (h : Dr s a (varW n ++ r)) (hr : noNm r) (hc : c + 1 ≤ 300) :
    varP s (a + 1) c = some (.mk 1 n ⟨#[]⟩ [], a + (varW n).length, c + 1) := by
  obtain ⟨m, rfl⟩ : ∃ m : Nat, n = (m : Int) := ⟨n.toNat, by omega⟩
  have hl : (UInt8.ofNat (97 + m % 26)).toNat = 97 + m % 26 := by rw [UInt8.toNat_ofNat']; omega
  unfold varW at h ⊢
  simp only [Int.toNat_natCast] at h ⊢
  obtain ⟨ds, hds⟩ : ∃ ds, ds = (if 26 ≤ (m : Int) then Lib.itoa ((m : Int) / 26) else []) := ⟨_, rfl⟩
  rw [← hds] at h ⊢
  have hd : (∀ x ∈ ds, digitN x.toNat = true) ∧ foldD 0 ds = m / 26 := by
    by_cases h26 : 26 ≤ (m : Int)
    · rw [if_pos h26] at hds
      have hi : Lib.itoa ((m : Int) / 26) = Lib.decDigits (m / 26) := by
        unfold Lib.itoa
        rw [if_neg (by omega)]
        congr 1
      rw [hds, hi]
      exact dec_digits _
    · rw [if_neg h26] at hds
      rw [hds]
      exact ⟨fun x hx => by simp at hx, by show 0 = m / 26; omega⟩
  rw [List.append_assoc] at h
  have hb := (h.next (l := [39]) : Dr s (a + 1) _)
  have hb2 : byteS s (a + 1) = (UInt8.ofNat (97 + m % 26)).toNat ∧ a + 1 < s.size := hb.byte
  rw [hl] at hb2
  have hdr : Dr s (a + 1 + 1) (ds ++ r) := hb.next (l := [UInt8.ofNat (97 + m % 26)])
  have hlen := hdr.len
  simp only [List.length_append] at hlen
  have hdg := digsF_dr s r (noNm_digit hr) ds s.size (a + 1 + 1) 0 hd.1 hdr (by rw [hd.2]; omega) (by omega)
  unfold varP
  rw [if_pos ⟨hb2.2, by rw [hb2.1]; unfold smallN; exact decide_eq_true (by omega)⟩, hdg]
  simp only
  unfold partP
  rw [if_pos hc, hd.2, hb2.1]
  simp only [List.length_append, List.length_cons, List.length_nil]
  rw [show a + 1 + 1 + ds.length = a + (0 + 1 + 1 + ds.length) by omega, show ((m / 26 * 26 + (97 + m % 26 - 97) : Nat) : Int) = (m : Int) by omega]

/-! rows -/
theorem listP_dr {s : ByteArray} (m : Nat → Nat → Option (Ty × Nat × Nat)) (wd : List UInt8) (g : Ty → List UInt8) (ok : List UInt8 → Prop) (hwd : ∀ x, ok (wd ++ x)) (r : List UInt8) (hr : ok r) (hp : wd.isPrefixOf r = false) :
    ∀ (us : List Ty) (f : Nat) (acc : List Ty) (a c : Nat), us.length ≤ f → (∀ t ∈ us, ∀ a c r', Dr s a (g t ++ r') → ok r' → c + t.parts ≤ 300 → m a c = some (t, a + (g t).length, c + t.parts)) →
      Dr s a ((us.flatMap fun t => wd ++ g t) ++ r) → c + partsL us ≤ 300 → listP m s wd f acc a c = some (acc ++ us, a + (us.flatMap fun t => wd ++ g t).length, c + partsL us)
  | [], f, acc, a, c, _, _, h, _ => by
    rw [List.flatMap_nil, List.nil_append] at h
    have hq : preB s wd a = false := by rw [h.preE]; exact hp
    cases f with
    | zero => simp [listP, partsL]
    | succ f => rw [listP, if_neg (by rw [hq]; simp)]; simp [partsL]
  | t :: us, 0, acc, a, c, hf, _, _, _ => by simp at hf
  | t :: us, f + 1, acc, a, c, hf, hm, h, hc => by
    simp only [List.flatMap_cons, List.append_assoc] at h
    simp only [partsL] at hc
    have h2 := h.next
    have hok : ok ((us.flatMap fun t => wd ++ g t) ++ r) := by
      cases us with
      | nil => simpa using hr
      | cons u us => simp only [List.flatMap_cons, List.append_assoc]; exact hwd _
    have ht := hm t List.mem_cons_self (a + wd.length) c _ h2 hok (by omega)
    rw [listP, if_pos h.pre, ht]
    simp only
    rw [listP_dr m wd g ok hwd r hr hp us f _ _ _ (by simpa using hf) (fun u hu => hm u (List.mem_cons_of_mem _ hu)) h2.next (by omega)]
    simp only [List.flatMap_cons, List.length_append, partsL, List.append_assoc, List.singleton_append]
    rw [show a + wd.length + (g t).length + (us.flatMap fun t => wd ++ g t).length = a + (wd.length + ((g t).length + (us.flatMap fun t => wd ++ g t).length)) by omega, show c + t.parts + partsL us = c + (t.parts + partsL us) by omega]
theorem manyP_dr {s : ByteArray} (m : Nat → Nat → Option (Ty × Nat × Nat)) (wd : List UInt8) (g : Ty → List UInt8) (ok : List UInt8 → Prop) (hwd : ∀ x, ok (wd ++ x)) (hw0 : 0 < wd.length) (r : List UInt8) (hr : ok r) (hp : wd.isPrefixOf r = false)
    (ts : List Ty) (h0 : ts ≠ []) (a c : Nat) (hm : ∀ t ∈ ts, ∀ a c r', Dr s a (g t ++ r') → ok r' → c + t.parts ≤ 300 → m a c = some (t, a + (g t).length, c + t.parts))
    (h : Dr s a (joinW wd (ts.map g) ++ r)) (hc : c + partsL ts ≤ 300) : manyP m s wd a c = some (ts, a + (joinW wd (ts.map g)).length, c + partsL ts) := by
  cases ts with
  | nil => exact absurd rfl h0
  | cons t us =>
    simp only [partsL] at hc
    have hj : joinW wd ((t :: us).map g) = g t ++ us.flatMap fun t => wd ++ g t := by
      simp only [List.map_cons, joinW]
      rw [List.flatMap_map]
    rw [hj, List.append_assoc] at h
    have hok : ok ((us.flatMap fun t => wd ++ g t) ++ r) := by
      cases us with
      | nil => simpa using hr
      | cons u us => simp only [List.flatMap_cons, List.append_assoc]; exact hwd _
    have ht := hm t List.mem_cons_self a c _ h hok (by omega)
    have hlen := h.next.len
    have hle : us.length ≤ (us.flatMap fun t => wd ++ g t).length := by
      clear hm h0 hc hj h hok ht hlen
      induction us with
      | nil => simp
      | cons u us ih => simp only [List.flatMap_cons, List.length_append, List.length_cons]; omega
    simp only [List.length_append] at hlen
    unfold manyP
    rw [ht]
    simp only
    rw [listP_dr m wd g ok hwd r hr hp us s.size [t] _ _ (by omega) (fun u hu => hm u (List.mem_cons_of_mem _ hu)) h.next (by omega), hj]
    simp only [List.length_append, partsL, List.singleton_append]
    rw [show a + (g t).length + (us.flatMap fun t => wd ++ g t).length = a + ((g t).length + (us.flatMap fun t => wd ++ g t).length) by omega, show c + t.parts + partsL us = c + (t.parts + partsL us) by omega]
end Go.Proofs.YtbhicpjhijondaaDoor
