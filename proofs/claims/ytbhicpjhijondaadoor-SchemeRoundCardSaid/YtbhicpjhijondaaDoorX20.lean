/- What is read of what was written, in plain words. -/
import Derived.Test.YtbhicpjhijondaaDoorX19
namespace Go.Typ
open Go.RowKit Go.Lib Go.Vfs Go.Par
set_option linter.unusedVariables false
set_option linter.unusedSimpArgs false
theorem take_more {l m : List UInt8} {n : Nat} (h : n ≤ l.length) : (l ++ m).take n = l.take n ∧ (l ++ m).drop n = l.drop n ++ m := by
  rw [List.take_append_of_le_length h, List.drop_append_of_le_length h]; exact ⟨rfl, rfl⟩
theorem nmR_more {l : List UInt8} {s : ByteArray} {l' : List UInt8} (h : nmR l = some (s, l')) (m : List UInt8) : nmR (l ++ m) = some (s, l' ++ m) := by
  cases l with
  | nil => cases h
  | cons c l =>
    rw [nmR] at h
    rw [List.cons_append, nmR]
    split at h
    · rename_i hc
      injection h with h
      injection h with h1 h2
      obtain ⟨e1, e2⟩ := take_more (m := m) hc
      rw [if_pos (by rw [List.length_append]; omega), e1, e2, ← h1, ← h2]
    · cases h
theorem lstA_more {g : Nat → List UInt8 → Option (Ty × Nat × List UInt8)} (hg : ∀ q l T q' l' m, g q l = some (T, q', l') → g q (l ++ m) = some (T, q', l' ++ m)) :
    ∀ (n : Nat) (xs : List Ty) (q : Nat) (l : List UInt8) (ts : List Ty) (q' : Nat) (l' m : List UInt8), lstA g n xs q l = some (ts, q', l') → lstA g n xs q (l ++ m) = some (ts, q', l' ++ m) := by
  intro n
  induction n with
  | zero => intro xs q l ts q' l' m h; rw [lstA] at h ⊢; injection h with h; injection h with h1 h2; injection h2 with h2 h3; rw [h1, h2, h3]
  | succ n ih =>
    intro xs q l ts q' l' m h
    rw [lstA] at h ⊢
    cases hq : g q l with
    | none => rw [hq] at h; cases h
    | some x =>
      obtain ⟨T, q1, l1⟩ := x
      rw [hq] at h
      rw [hg _ _ _ _ _ m hq]
      exact ih _ _ _ _ _ _ m h
theorem argsR_more {g : Nat → List UInt8 → Option (Ty × Nat × List UInt8)} (hg : ∀ q l T q' l' m, g q l = some (T, q', l') → g q (l ++ m) = some (T, q', l' ++ m)) {k : Int} {s : ByteArray} {q : Nat} {l : List UInt8} {T : Ty} {q' : Nat} {l' : List UInt8} (m : List UInt8)
    (h : argsR g k s q l = some (T, q', l')) : argsR g k s q (l ++ m) = some (T, q', l' ++ m) := by
  cases l with
  | nil => cases h
  | cons c l =>
    rw [argsR] at h
    rw [List.cons_append, argsR]
    cases hq : lstA g c.toNat [] q l with
    | none => rw [hq] at h; cases h
    | some x =>
      obtain ⟨ts, q1, l1⟩ := x
      rw [hq] at h
      rw [lstA_more hg _ _ _ _ _ _ _ m hq]
      simp only at h ⊢
      injection h with h; injection h with h1 h2; injection h2 with h2 h3
      rw [h1, h2, h3]
theorem typR_more (f : Nat) : ∀ (q : Nat) (l : List UInt8) (T : Ty) (q' : Nat) (l' m : List UInt8), typR f q l = some (T, q', l') → typR f q (l ++ m) = some (T, q', l' ++ m) := by
  induction f with
  | zero => intro q l T q' l' m h; cases h
  | succ f ih =>
    intro q l T q' l' m h
    rw [typR] at h ⊢
    split at h
    · cases h
    rename_i hq
    rw [if_neg hq]
    cases l with
    | nil => cases h
    | cons c l =>
      rw [bodyR] at h
      rw [List.cons_append, bodyR]
      unfold kindR at h ⊢
      split at h
      · rename_i h1
        rw [if_pos h1]
        split at h
        · rename_i h4
          obtain ⟨e1, e2⟩ := take_more (m := m) h4
          injection h with h; injection h with h5 h6; injection h6 with h6 h7
          rw [if_pos (by rw [List.length_append]; omega), e1, e2, h5, h6, h7]
        · cases h
      · rename_i h1
        rw [if_neg h1]
        split at h
        · rename_i h2
          rw [if_pos h2]
          cases hn : nmR l with
          | none => rw [hn] at h; cases h
          | some x =>
            obtain ⟨s, l1⟩ := x
            rw [hn] at h
            rw [nmR_more hn m]
            exact argsR_more ih m h
        · rename_i h2
          rw [if_neg h2]
          split at h
          · rename_i h3
            rw [if_pos h3]
            exact argsR_more ih m h
          · cases h
theorem exsR_more : ∀ (n : Nat) (xs : List Ex) (l : List UInt8) (ys : List Ex) (l' m : List UInt8), exsR n xs l = some (ys, l') → exsR n xs (l ++ m) = some (ys, l' ++ m) := by
  intro n
  induction n with
  | zero => intro xs l ys l' m h; rw [exsR] at h ⊢; injection h with h; injection h with h1 h2; rw [h1, h2]
  | succ n ih =>
    intro xs l ys l' m h
    rw [exsR] at h ⊢
    cases hn : nmR l with
    | none => rw [hn] at h; cases h
    | some x =>
      obtain ⟨s, l1⟩ := x
      rw [hn] at h
      rw [nmR_more hn m]
      simp only at h ⊢
      cases ht : typR 301 0 l1 with
      | none => rw [ht] at h; cases h
      | some y =>
        obtain ⟨T, q1, l2⟩ := y
        rw [ht] at h
        rw [typR_more _ _ _ _ _ _ m ht]
        exact ih _ _ _ _ m h
/-- what was written is read. -/
theorem nmR_of (s : ByteArray) (hs : s.size ≤ 255) (m : List UInt8) : nmR ([s.size.toUInt8] ++ s.data.toList ++ m) = some (s, m) := by
  have hl : s.data.toList.length = s.size := by rw [Array.length_toList]; rfl
  have hn : s.size.toUInt8.toNat = s.size := by show (UInt8.ofNat s.size).toNat = _; rw [UInt8.toNat_ofNat']; omega
  show nmR (s.size.toUInt8 :: (s.data.toList ++ m)) = _
  rw [nmR, hn, if_pos (by rw [List.length_append]; omega), ← hl, List.take_left, List.drop_left]
theorem be4_num (n : Nat) (hn : n < 4294967296) : numB (be4 n) = n := by
  have key : ∀ m : Nat, (m % 256).toUInt8.toNat = m % 256 := fun m => by
    show (UInt8.ofNat (m % 256)).toNat = _
    rw [UInt8.toNat_ofNat']; omega
  simp only [numB, be4, List.foldl_cons, List.foldl_nil, key]
  omega
theorem lstA_of {f : Nat} (ts : List Ty) : ∀ (xs : List Ty) (q : Nat) (m : List UInt8), (∀ t ∈ ts, ∀ q m, q + t.parts ≤ 300 → 301 ≤ f + q → typR f q (wrT t ++ m) = some (t, q + t.parts, m)) → q + partsL ts ≤ 300 → 301 ≤ f + q →
    lstA (typR f) ts.length xs q (wrL ts ++ m) = some (xs ++ ts, q + partsL ts, m) := by
  induction ts with
  | nil => intro xs q m _ _ _; simp [lstA, wrL, partsL]
  | cons t ts ih =>
    intro xs q m h h1 h2
    rw [partsL] at h1
    have := t.parts_pos
    rw [List.length_cons, lstA, wrL, List.append_assoc, h t (by simp) q _ (by omega) h2]
    simp only
    rw [ih _ _ _ (fun t ht => h t (by simp [ht])) (by omega) (by omega), partsL]
    simp only [List.append_assoc, List.singleton_append]
    congr 3
    omega
theorem ba_nilX {s : ByteArray} (h : s.toList = []) : s = ⟨#[]⟩ := by
  apply ByteArray.ext
  apply Array.toList_inj.mp
  rw [← ByteArray.toList_eq]
  exact h
theorem typR_of (T : Ty) : FitAll T → shortT T = true → ∀ (f q : Nat) (m : List UInt8), q + T.parts ≤ 300 → 301 ≤ f + q → typR f q (wrT T ++ m) = some (T, q + T.parts, m) := by
  induction T using Ty.ind with
  | h T ih =>
    intro hF hS f q m hp hf
    have hpp := T.parts_pos
    obtain ⟨f, rfl⟩ : ∃ f', f = f' + 1 := ⟨f - 1, by omega⟩
    have hfs := hF.self
    have hnl := shortT_name hS
    have hal := shortT_args hS
    have hpe := T.parts_eq
    rw [typR, if_neg (by omega), wrT_eq]
    have hargs : ∀ (q : Nat) (m : List UInt8), q + partsL T.args ≤ 300 → 301 ≤ f + q → lstA (typR f) T.args.length [] q (wrL T.args ++ m) = some (T.args, q + partsL T.args, m) := fun q m h1 h2 => by
      have := lstA_of (f := f) T.args [] q m (fun t ht q m h3 h4 => by
        obtain ⟨i, hi, rfl⟩ := List.getElem_of_mem ht
        exact ih i hi (hF.arg hi) (shortT_arg hS (List.getElem_mem hi)) f q m h3 h4) h1 h2
      simpa using this
    have hnb : T.args.length.toUInt8.toNat = T.args.length := by show (UInt8.ofNat T.args.length).toNat = _; rw [UInt8.toNat_ofNat']; omega
    have hAR : ∀ (k : Int) (s : ByteArray), argsR (typR f) k s (q + 1) ([T.args.length.toUInt8] ++ wrL T.args ++ m) = some (.mk k 0 s T.args, q + T.parts, m) := fun k s => by
      show argsR (typR f) k s (q + 1) (T.args.length.toUInt8 :: (wrL T.args ++ m)) = _
      rw [argsR, hnb, hargs _ _ (by omega) (by omega)]
      simp only
      congr 3
      omega
    have eta : ∀ k n s, T.kind = k → T.num = n → T.name = s → T = .mk k n s T.args := fun k n s h1 h2 h3 => by
      obtain ⟨k', n', s', ts⟩ := T
      simp only [Ty.kind, Ty.num, Ty.name, Ty.args] at *
      rw [h1, h2, h3]
    rcases fits_kinds hfs with ⟨h1, h2, h3, h4, h5⟩ | ⟨h1, h2, h3⟩ | ⟨h1, h2, h3, h4⟩ | ⟨h1, h2, h3, h4⟩
    · have hnm := ba_nilX h4
      have ha : T.args = [] := List.eq_nil_of_length_eq_zero h5
      rw [h1, if_pos rfl]
      show bodyR (typR f) (q + 1) (((1 : Int).toNat.toUInt8) :: (be4 T.num.toNat ++ m)) = _
      rw [bodyR, show ((1 : Int).toNat.toUInt8).toNat = 1 from rfl, kindR, if_pos rfl, if_pos (by rw [List.length_append, be4_length]; omega)]
      obtain ⟨e1, e2⟩ := take_more (l := be4 T.num.toNat) (m := m) (n := 4) (by rw [be4_length]; exact Nat.le_refl _)
      rw [e1, e2, List.take_of_length_le (by rw [be4_length]; exact Nat.le_refl _), List.drop_of_length_le (by rw [be4_length]; exact Nat.le_refl _), be4_num _ (by omega), Int.toNat_of_nonneg h2]
      have hT := eta 1 T.num ⟨#[]⟩ h1 rfl hnm
      rw [ha] at hT
      rw [← hT, hpe, ha, partsL]
      simp
    · rw [h1, if_neg (by decide), if_pos rfl]
      have e : [((2 : Int).toNat.toUInt8)] ++ ([T.name.size.toUInt8] ++ T.name.data.toList ++ ([T.args.length.toUInt8] ++ wrL T.args)) ++ m = ((2 : Int).toNat.toUInt8) :: ([T.name.size.toUInt8] ++ T.name.data.toList ++ ([T.args.length.toUInt8] ++ wrL T.args ++ m)) := by simp
      rw [e, bodyR, show ((2 : Int).toNat.toUInt8).toNat = 2 from rfl, kindR, if_neg (by decide), if_pos rfl, nmR_of _ hnl]
      simp only
      rw [hAR, ← eta 2 0 T.name h1 h2 rfl]
    · rw [h1, if_neg (by decide), if_neg (by decide), List.nil_append]
      show bodyR (typR f) (q + 1) (((3 : Int).toNat.toUInt8) :: ([T.args.length.toUInt8] ++ wrL T.args ++ m)) = _
      rw [bodyR, show ((3 : Int).toNat.toUInt8).toNat = 3 from rfl, kindR, if_neg (by decide), if_neg (by decide), if_pos (.inl rfl), hAR]
      show some (Ty.mk 3 0 ⟨#[]⟩ T.args, _, _) = _
      rw [← eta 3 0 ⟨#[]⟩ h1 h2 (ba_nilX h3)]
    · rw [h1, if_neg (by decide), if_neg (by decide), List.nil_append]
      show bodyR (typR f) (q + 1) (((4 : Int).toNat.toUInt8) :: ([T.args.length.toUInt8] ++ wrL T.args ++ m)) = _
      rw [bodyR, show ((4 : Int).toNat.toUInt8).toNat = 4 from rfl, kindR, if_neg (by decide), if_neg (by decide), if_pos (.inr rfl), hAR]
      show some (Ty.mk 4 0 ⟨#[]⟩ T.args, _, _) = _
      rw [← eta 4 0 ⟨#[]⟩ h1 h2 (ba_nilX h3)]
end Go.Typ
namespace Go.Proofs.YtbhicpjhijondaaDoor
open Go.RowKit Go.Lib Go.Vfs Go.Par Go.Typ Go.Shelf
theorem exsR_of (xs : List Ex) : ∀ (ys : List Ex) (m : List UInt8), (∀ x ∈ xs, x.name.size ≤ 255 ∧ rightT x.ty = true ∧ shortT x.ty = true) → exsR xs.length ys (exsB xs ++ m) = some (ys ++ xs, m) := by
  induction xs with
  | nil => intro ys m _; simp [exsR, exsB]
  | cons x xs ih =>
    intro ys m h
    obtain ⟨h1, h2, h3⟩ := h x (by simp)
    obtain ⟨h4, h5⟩ := rightT_iff.1 h2
    have e : exsB (x :: xs) ++ m = [x.name.size.toUInt8] ++ x.name.data.toList ++ (wrT x.ty ++ (exsB xs ++ m)) := by simp [exsB, exB]
    rw [List.length_cons, exsR, e, nmR_of _ h1]
    simp only
    rw [typR_of x.ty h5 h3 301 0 _ (by omega) (by omega)]
    simp only
    rw [ih _ _ (fun y hy => h y (by simp [hy]))]
    simp
theorem right_each {xs : List Ex} (h : rightX xs = true) : ∀ x ∈ xs, x.name.size ≤ 255 ∧ rightT x.ty = true ∧ shortT x.ty = true := fun x hx => by
  obtain ⟨i, hi, rfl⟩ := List.getElem_of_mem hx
  obtain ⟨h1, -, h2, h3⟩ := rightX_each h hi
  exact ⟨h1, closedT_right h2, h3⟩
theorem encX_parts {xs : List Ex} (h : rightX xs = true) (m : List UInt8) : 2 ≤ (encX xs ++ m).length ∧ numB ((encX xs ++ m).take 2) = xs.length ∧ (encX xs ++ m).drop 2 = exsB xs ++ m := by
  have hl := rightX_len h
  refine ⟨by simp [encX], ?_, by simp [encX]⟩
  have k1 : (xs.length / 256).toUInt8.toNat = xs.length / 256 := by show (UInt8.ofNat (xs.length / 256)).toNat = _; rw [UInt8.toNat_ofNat']; omega
  have k2 : xs.length.toUInt8.toNat = xs.length % 256 := by show (UInt8.ofNat xs.length).toNat = _; rw [UInt8.toNat_ofNat']
  simp only [encX, List.cons_append, List.nil_append, List.take_succ_cons, List.take_zero, numB, List.foldl_cons, List.foldl_nil, k1, k2]
  omega
/-- what is read of a table's bytes with more behind. -/
theorem decX_enc {xs : List Ex} (h : rightX xs = true) (m : List UInt8) : decX (encX xs ++ m) = if m = [] then some xs else none := by
  obtain ⟨h1, h2, h3⟩ := encX_parts h m
  have hl := rightX_len h
  rw [decX, if_pos ⟨h1, by rw [h2]; exact hl⟩, h2, h3, exsR_of xs [] m (right_each h)]
  simp only [List.nil_append]
  by_cases hm : m = []
  · rw [if_pos ⟨hm, h⟩, if_pos hm]
  · rw [if_neg (fun e => hm e.1), if_neg hm]
/-- a front of a table's bytes is none. -/
theorem decX_front {xs : List Ex} (h : rightX xs = true) {n : Nat} (hn : n < (encX xs).length) : decX ((encX xs).take n) = none := by
  cases hd : decX ((encX xs).take n) with
  | none => rfl
  | some ys =>
    exfalso
    obtain ⟨m, hm, hm0⟩ : ∃ m, (encX xs).take n ++ m = encX xs ∧ m ≠ [] := ⟨(encX xs).drop n, List.take_append_drop _ _, fun e => by rw [List.drop_eq_nil_iff] at e; omega⟩
    generalize (encX xs).take n = l at *
    unfold decX at hd
    split at hd
    · rename_i hc
      obtain ⟨h1, h2, h3⟩ := encX_parts h []
      rw [List.append_nil, ← hm] at h2 h3
      obtain ⟨e1, e2⟩ := take_more (m := m) hc.1
      rw [e1] at h2
      rw [e2, List.append_nil] at h3
      have hE := exsR_of xs [] [] (right_each h)
      rw [List.append_nil, ← h3, ← h2] at hE
      cases hx : exsR (numB (l.take 2)) [] (l.drop 2) with
      | none => rw [hx] at hd; cases hd
      | some y =>
        obtain ⟨zs, l'⟩ := y
        rw [exsR_more _ _ _ _ _ m hx] at hE
        injection hE with hE
        injection hE with _ hE
        exact hm0 (List.append_eq_nil_iff.1 hE).2
    · cases hd
end Go.Proofs.YtbhicpjhijondaaDoor
