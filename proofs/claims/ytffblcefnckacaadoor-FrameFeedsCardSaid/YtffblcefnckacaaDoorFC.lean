/- Plain: how bytes are fed, piece by piece. -/
import Derived.Test.YtffblcefnckacaaDoorFB
namespace Go.Frm
open Go.Lib
set_option linter.unusedVariables false
set_option linter.unusedSimpArgs false

theorem hd_ge {b : List UInt8} (h : hd b ≠ 0) : 2 ≤ hd b := by
  unfold hd at h ⊢; split
  · omega
  · rename_i hp; rw [if_neg hp] at h; have := hd4_ge h; omega
theorem msg_body {b : List UInt8} {n l : Nat} (h : msg b = .body n l) : n = hd b ∧ 2 ≤ n ∧ n ≤ 1024 ∧ n + l ≤ b.length ∧ l ≤ 65536 ∧ lengthV (b.take n) = some l := by
  unfold msg at h
  split at h
  · rename_i hc
    split at h
    · cases h
    · rename_i k hk
      split at h
      · cases h
      · split at h
        · cases h
        · injection h with h1 h2
          subst h1 h2
          exact ⟨rfl, hd_ge hc.1, hc.2, by omega, by omega, hk⟩
  · split at h <;> cases h
theorem runF_enough : ∀ (f : Nat) (b : List UInt8), b.length < f → runF f b = run b := by
  have key : ∀ (f g : Nat) (b : List UInt8), b.length < f → b.length < g → runF f b = runF g b := by
    intro f
    induction f with
    | zero => intro g b h; omega
    | succ f ih =>
      intro g b h1 h2
      cases g with
      | zero => omega
      | succ g =>
        unfold runF
        cases hm : msg b with
        | more => rfl
        | bad e => rfl
        | body n l =>
          obtain ⟨-, h3, -, h4, -⟩ := msg_body hm
          have hl : (b.drop (n + l)).length < f ∧ (b.drop (n + l)).length < g := by rw [List.length_drop]; omega
          simp only
          rw [ih g _ hl.1 hl.2]
  intro f b h
  exact key f (b.length + 1) b h (by omega)
theorem run_more {b : List UInt8} (h : msg b = .more) : run b = ([], b, 0) := by unfold run runF; rw [h]
theorem run_bad {b : List UInt8} {e : Int} (h : msg b = .bad e) : run b = ([], [], e) := by unfold run runF; rw [h]
theorem run_body {b : List UInt8} {n l : Nat} (h : msg b = .body n l) : run b = ((b.drop n).take l :: (run (b.drop (n + l))).1, (run (b.drop (n + l))).2) := by
  obtain ⟨-, h3, -, h4, -⟩ := msg_body h
  unfold run
  rw [runF, h]
  simp only
  rw [runF_enough b.length _ (by rw [List.length_drop]; omega)]
  rfl
theorem msg_bad {b : List UInt8} {e : Int} (h : msg b = .bad e) : e = 30 ∨ e = 31 := by
  unfold msg at h
  split at h
  · split at h
    · injection h with h; exact .inl h.symm
    · split at h
      · injection h with h; exact .inr h.symm
      · split at h <;> cases h
  · split at h
    · injection h with h; exact .inl h.symm
    · cases h
theorem take_app {b c : List UInt8} {k : Nat} (h : k ≤ b.length) : (b ++ c).take k = b.take k := by rw [List.take_append_of_le_length h]
/-- what was told stays told. -/
theorem msg_app {b : List UInt8} (c : List UInt8) (h : msg b ≠ .more) : msg (b ++ c) = msg b := by
  unfold msg at h ⊢
  by_cases hc : hd b ≠ 0 ∧ hd b ≤ 1024
  · have he := hd_app c hc.1
    have ht := take_app (c := c) (hd_le b)
    rw [if_pos hc] at h ⊢
    rw [he, if_pos hc, ht]
    cases hl : lengthV (b.take (hd b)) with
    | none => rfl
    | some l =>
      rw [hl] at h
      simp only at h ⊢
      by_cases h6 : 65536 < l
      · rw [if_pos h6, if_pos h6]
      · rw [if_neg h6] at h ⊢
        rw [if_neg h6]
        by_cases h7 : b.length < hd b + l
        · rw [if_pos h7] at h; exact absurd rfl h
        · rw [if_neg h7, if_neg (by rw [List.length_append]; omega)]
  · rw [if_neg hc] at h ⊢
    by_cases hk : 1024 ≤ b.length
    · have h2 : ¬ (hd (b ++ c) ≠ 0 ∧ hd (b ++ c) ≤ 1024) := by
        intro ⟨h3, h4⟩
        have := hd_take (b ++ c) (k := b.length) (by omega)
        rw [take_app (Nat.le_refl _), List.take_length, if_pos (by omega)] at this
        exact hc ⟨by omega, by omega⟩
      rw [if_pos hk, if_neg h2, if_pos (by rw [List.length_append]; omega)]
    · rw [if_neg hk] at h; exact absurd rfl h
/-- PIECE BY PIECE: the bodies of the front, and then those of its rest with what comes. -/
theorem run_app : ∀ (m : Nat) (b c : List UInt8), b.length ≤ m → run (b ++ c) = if (run b).2.2 = 0 then ((run b).1 ++ (run ((run b).2.1 ++ c)).1, (run ((run b).2.1 ++ c)).2) else run b := by
  intro m
  induction m with
  | zero =>
    intro b c h
    have : b = [] := List.eq_nil_of_length_eq_zero (by omega)
    subst this
    rw [show run [] = ([], [], 0) from rfl]
    simp
  | succ m ih =>
    intro b c h
    cases hm : msg b with
    | more => rw [run_more hm]; simp
    | bad e =>
      have he := msg_bad hm
      rw [run_bad hm, run_bad (by rw [msg_app c (by rw [hm]; simp), hm])]
      rw [if_neg (by simp only; omega)]
    | body n l =>
      obtain ⟨-, h3, -, h4, -⟩ := msg_body hm
      have hm2 : msg (b ++ c) = .body n l := by rw [msg_app c (by rw [hm]; simp), hm]
      rw [run_body hm, run_body hm2]
      have e1 : ((b ++ c).drop n).take l = (b.drop n).take l := by
        rw [List.drop_append_of_le_length (by omega), List.take_append_of_le_length (by rw [List.length_drop]; omega)]
      have e2 : (b ++ c).drop (n + l) = b.drop (n + l) ++ c := by rw [List.drop_append_of_le_length (by omega)]
      rw [e1, e2, ih (b.drop (n + l)) c (by rw [List.length_drop]; omega)]
      simp only
      split <;> simp_all
/-- a decoder: its rest and its error. -/
structure Dc where
  rest : List UInt8
  e : Int
def feed (d : Dc) (b : List UInt8) : List (List UInt8) × Dc := if d.e = 0 then ((run (d.rest ++ b)).1, ⟨(run (d.rest ++ b)).2.1, (run (d.rest ++ b)).2.2⟩) else ([], d)
def feeds : Dc → List (List UInt8) → List (List UInt8) × Dc
  | d, [] => ([], d)
  | d, b :: bs => ((feed d b).1 ++ (feeds (feed d b).2 bs).1, (feeds (feed d b).2 bs).2)
theorem run_rest : ∀ (m : Nat) (b : List UInt8), b.length ≤ m → (run b).2.2 = 0 → run (run b).2.1 = ([], (run b).2.1, 0) := by
  intro m
  induction m with
  | zero =>
    intro b h _
    have : b = [] := List.eq_nil_of_length_eq_zero (by omega)
    subst this
    rfl
  | succ m ih =>
    intro b h h0
    cases hm : msg b with
    | more => rw [run_more hm]; exact run_more hm
    | bad e => rw [run_bad hm] at h0; have := msg_bad hm; simp only at h0; omega
    | body n l =>
      obtain ⟨-, h3, -, h4, -⟩ := msg_body hm
      rw [run_body hm] at h0 ⊢
      exact ih _ (by rw [List.length_drop]; omega) h0
/-- all pieces, as one. -/
theorem feeds_one : ∀ (bs : List (List UInt8)) (d : Dc), d.e = 0 → run d.rest = ([], d.rest, 0) → feeds d bs = (if (run (d.rest ++ bs.flatten)).2.2 = 0 ∨ True then ((run (d.rest ++ bs.flatten)).1, ⟨(run (d.rest ++ bs.flatten)).2.1, (run (d.rest ++ bs.flatten)).2.2⟩) else ([], d)) := by
  intro bs
  induction bs with
  | nil =>
    intro d h0 hr
    simp only [feeds, List.flatten_nil, List.append_nil, hr, or_true, if_true]
    cases d; simp_all
  | cons b bs ih =>
    intro d h0 hr
    simp only [feeds, or_true, if_true]
    have hf : feed d b = ((run (d.rest ++ b)).1, ⟨(run (d.rest ++ b)).2.1, (run (d.rest ++ b)).2.2⟩) := by unfold feed; rw [if_pos h0]
    rw [hf]
    simp only
    have ha := run_app (d.rest ++ b).length (d.rest ++ b) bs.flatten (Nat.le_refl _)
    rw [List.append_assoc, ← List.flatten_cons] at ha
    by_cases he : (run (d.rest ++ b)).2.2 = 0
    · rw [if_pos he] at ha
      have hi := ih ⟨(run (d.rest ++ b)).2.1, (run (d.rest ++ b)).2.2⟩ he (run_rest _ _ (Nat.le_refl _) he)
      simp only [or_true, if_true] at hi
      rw [hi, ha]
    · rw [if_neg he] at ha
      have hdead : ∀ (bs : List (List UInt8)) (d : Dc), d.e ≠ 0 → feeds d bs = ([], d) := by
        intro bs
        induction bs with
        | nil => intro d _; rfl
        | cons x xs ihx => intro d hd; simp only [feeds, feed, if_neg hd, ihx d hd, List.append_nil]
      rw [hdead bs _ he, ha]
      simp
end Go.Frm
