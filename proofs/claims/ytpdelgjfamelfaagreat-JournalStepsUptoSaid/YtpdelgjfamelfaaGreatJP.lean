/- Plain laws of frames: what is written is read; a front of it; one byte that is another. -/
import Derived.Test.YtpdelgjfamelfaaGreatJ9
namespace Go.Proofs.YtpdelgjfamelfaaGreat
open Go.RowKit Go.Lib Go.Vfs Go.Par Go.Shelf
set_option linter.unusedVariables false
set_option linter.unusedSimpArgs false

def encR (g : Nat) (ps : List (List UInt8)) : List UInt8 := (ps.map (frameB g)).flatten
theorem encR_nil (g : Nat) : encR g [] = [] := rfl
theorem encR_cons (g : Nat) (p : List UInt8) (ps : List (List UInt8)) : encR g (p :: ps) = frameB g p ++ encR g ps := by simp [encR]
theorem encR_append (g : Nat) (a b : List (List UInt8)) : encR g (a ++ b) = encR g a ++ encR g b := by simp [encR]
theorem encR_snoc (g : Nat) (a : List (List UInt8)) (p : List UInt8) : encR g (a ++ [p]) = encR g a ++ frameB g p := by simp [encR]
def frL (g : Nat) : Nat → List (List UInt8) → List Fr
  | _, [] => []
  | i, p :: ps => ⟨g, p, i, i + 12 + p.length⟩ :: frL g (i + 12 + p.length) ps
theorem frL_pays (g : Nat) : ∀ (i : Nat) (ps : List (List UInt8)), (frL g i ps).map Fr.pay = ps
  | _, [] => rfl
  | i, p :: ps => by simp [frL, frL_pays g _ ps]
theorem frL_gens (g : Nat) : ∀ (i : Nat) (ps : List (List UInt8)), ∀ x ∈ frL g i ps, x.gen = g
  | _, [] => by simp [frL]
  | i, p :: ps => by
    intro x hx
    rcases List.mem_cons.1 hx with rfl | hx
    · rfl
    · exact frL_gens g _ ps x hx
theorem frL_length (g : Nat) : ∀ (i : Nat) (ps : List (List UInt8)), (frL g i ps).length = ps.length
  | _, [] => rfl
  | i, p :: ps => by simp [frL, frL_length g _ ps]
theorem frL_end (g : Nat) : ∀ (i : Nat) (ps : List (List UInt8)), ((frL g i ps).getLast?.map Fr.stop).getD i = i + (encR g ps).length
  | i, [] => by simp [frL, encR]
  | i, p :: ps => by
    have h := frL_end g (i + 12 + p.length) ps
    rw [encR_cons, List.length_append, frameB_length]
    cases hp : frL g (i + 12 + p.length) ps with
    | nil =>
      rw [hp] at h
      simp [frL, hp] at h ⊢
      have : ps = [] := List.eq_nil_of_length_eq_zero (by rw [← frL_length g (i + 12 + p.length) ps, hp]; rfl)
      subst this
      simp [encR]
      omega
    | cons y ys =>
      rw [hp] at h
      rw [show frL g i (p :: ps) = ⟨g, p, i, i + 12 + p.length⟩ :: frL g (i + 12 + p.length) ps from rfl, hp, List.getLast?_cons_cons]
      cases hl : (y :: ys).getLast? with
      | none => simp at hl
      | some z =>
        rw [hl] at h
        simp at h ⊢
        omega
theorem frameB_eq (g : Nat) (p r : List UInt8) : frameB g p ++ r = be4 g ++ (be4 p.length ++ (be4 (crc (be4 g ++ be4 p.length ++ p)) ++ (p ++ r))) := by simp [frameB]
theorem drop_past (a x : List UInt8) (k : Nat) : (a ++ x).drop (a.length + k) = x.drop k := by rw [← List.drop_drop]; simp
theorem frAt_frame {b a r : List UInt8} {g : Nat} {p : List UInt8} (hg : g < 4294967296) (hp : p.length ≤ 65536) (hb : b = a ++ (frameB g p ++ r)) : frAt b a.length = some ⟨g, p, a.length, a.length + 12 + p.length⟩ := by
  have hC := crc_lt (be4 g ++ be4 p.length ++ p)
  have hbl : b.length = a.length + (12 + p.length + r.length) := by rw [hb, List.length_append, List.length_append, frameB_length]
  have hx : b = a ++ (be4 g ++ (be4 p.length ++ (be4 (crc (be4 g ++ be4 p.length ++ p)) ++ (p ++ r)))) := by rw [hb, frameB_eq]
  have d0 : b.drop a.length = be4 g ++ (be4 p.length ++ (be4 (crc (be4 g ++ be4 p.length ++ p)) ++ (p ++ r))) := by
    have := drop_past a (be4 g ++ (be4 p.length ++ (be4 (crc (be4 g ++ be4 p.length ++ p)) ++ (p ++ r)))) 0
    rw [← hx] at this; simpa using this
  have d4 : b.drop (a.length + 4) = be4 p.length ++ (be4 (crc (be4 g ++ be4 p.length ++ p)) ++ (p ++ r)) := by rw [hx, drop_past]; rfl
  have d8 : b.drop (a.length + 8) = be4 (crc (be4 g ++ be4 p.length ++ p)) ++ (p ++ r) := by rw [hx, drop_past]; rfl
  have d12 : b.drop (a.length + 12) = p ++ r := by rw [hx, drop_past]; rfl
  have n4 : num4 (b.drop (a.length + 4)) = p.length := by rw [d4, num4_be4 _ (by omega)]
  have n8 : num4 (b.drop (a.length + 8)) = crc (be4 g ++ be4 p.length ++ p) := by rw [d8, num4_be4 _ hC]
  have n0 : num4 (b.drop a.length) = g := by rw [d0, num4_be4 _ hg]
  have t8 : (b.drop a.length).take 8 = be4 g ++ be4 p.length := by rw [d0]; rfl
  have tp : (b.drop (a.length + 12)).take p.length = p := by rw [d12]; simp
  unfold frAt
  rw [n4, n8, n0, t8, tp, if_neg (by omega), if_neg (by omega), if_neg (by simp)]
theorem num4_take : ∀ (l t : List UInt8), 4 ≤ l.length → num4 (l ++ t) = num4 l
  | _ :: _ :: _ :: _ :: _, _, _ => rfl
  | [], _, h | [_], _, h | [_, _], _, h | [_, _, _], _, h => by simp at h
/-- a frame that is cut off is none. -/
theorem frAt_short {b a q : List UInt8} {g : Nat} {p : List UInt8} (hp : p.length ≤ 65536) (hq : q <+: frameB g p) (hl : q.length < 12 + p.length) (hb : b = a ++ q) : frAt b a.length = none := by
  have hbl : b.length = a.length + q.length := by rw [hb, List.length_append]
  unfold frAt
  by_cases h12 : b.length < a.length + 12
  · rw [if_pos h12]
  · rw [if_neg h12]
    obtain ⟨t, ht⟩ := hq
    have d4 : b.drop (a.length + 4) = q.drop 4 := by rw [hb, drop_past]
    have n4 : num4 (q.drop 4) = p.length := by
      have e1 : num4 (q.drop 4 ++ t) = num4 (q.drop 4) := num4_take _ _ (by simp; omega)
      have e2 : q.drop 4 ++ t = (frameB g p).drop 4 := by rw [← ht, List.drop_append_of_le_length (by omega)]
      rw [← e1, e2]
      have : (frameB g p).drop 4 = be4 p.length ++ (be4 (crc (be4 g ++ be4 p.length ++ p)) ++ (p ++ [])) := by
        have h := frameB_eq g p []
        rw [List.append_nil] at h
        rw [h]
        rfl
      rw [this, num4_be4 _ (by omega)]
    rw [d4, n4, if_pos (.inr (by omega))]
theorem frsF_enc {b : List UInt8} {g : Nat} (hg : g < 4294967296) : ∀ (ps : List (List UInt8)) (a q : List UInt8) (f i : Nat), b = a ++ (encR g ps ++ q) → i = a.length → (∀ p ∈ ps, p.length ≤ 65536) → ps.length < f →
    (frsF b f i).map (·.1) = frL g i ps ++ (frsF b (f - ps.length) (i + (encR g ps).length)).map (·.1)
  | [], a, q, f, i, hb, hi, hp, hf => by simp [frL, encR]
  | p :: ps, a, q, f, i, hb, hi, hp, hf => by
    obtain ⟨f, rfl⟩ : ∃ f', f = f' + 1 := ⟨f - 1, by simp at hf; omega⟩
    have hx : frAt b i = some ⟨g, p, i, i + 12 + p.length⟩ := by
      rw [hi]
      exact frAt_frame hg (hp p (by simp)) (r := encR g ps ++ q) (by rw [hb, encR_cons]; simp)
    rw [frsF_some hx, List.map_cons]
    have ih := frsF_enc (b := b) hg ps (a ++ frameB g p) q f (i + 12 + p.length) (by rw [hb, encR_cons]; simp) (by rw [List.length_append, frameB_length]; omega) (fun y hy => hp y (by simp [hy])) (by simp at hf; omega)
    simp only at ih ⊢
    rw [ih, show f + 1 - (p :: ps).length = f - ps.length by simp, encR_cons, List.length_append, frameB_length, show i + (12 + p.length + (encR g ps).length) = i + 12 + p.length + (encR g ps).length by omega]
    rfl
theorem encR_count (g : Nat) : ∀ ps : List (List UInt8), ps.length ≤ (encR g ps).length
  | [] => by simp
  | p :: ps => by rw [encR_cons, List.length_append, frameB_length, List.length_cons]; have := encR_count g ps; omega
/-- what is written, and behind it nothing that is a frame, is read. -/
theorem frs_enc {b q : List UInt8} {g : Nat} (hg : g < 4294967296) {ps : List (List UInt8)} (hb : b = encR g ps ++ q) (hp : ∀ p ∈ ps, p.length ≤ 65536) (hn : frAt b (encR g ps).length = none) : (frs b).map (·.1) = frL g 0 ps := by
  have hc := encR_count g ps
  have h := frsF_enc (b := b) hg ps [] q (b.length + 1) 0 hb rfl hp (by rw [hb, List.length_append]; omega)
  unfold frs
  rw [h, Nat.zero_add, frsF_none hn]
  simp
theorem frAt_end {b : List UInt8} {i : Nat} (h : b.length ≤ i) : frAt b i = none := by unfold frAt; rw [if_pos (by omega)]
section
variable {b : List UInt8}
theorem pays_frL {g : Nat} {ps : List (List UInt8)} {l : List (FrOf b)} (h : l.map (·.1) = frL g 0 ps) : pays l = ps := by
  have : pays l = (l.map (·.1)).map Fr.pay := by simp [pays]
  rw [this, h, frL_pays]
theorem endOf_frL {g : Nat} {ps : List (List UInt8)} {l : List (FrOf b)} (h : l.map (·.1) = frL g 0 ps) : endOf l = (encR g ps).length := by
  have : endOf l = ((l.map (·.1)).getLast?.map Fr.stop).getD 0 := by unfold endOf; rw [List.getLast?_map, Option.map_map]; rfl
  rw [this, h, frL_end]; omega
theorem gens_frL {g : Nat} {ps : List (List UInt8)} {l : List (FrOf b)} (h : l.map (·.1) = frL g 0 ps) : ∀ x ∈ l, x.1.gen = g := fun x hx =>
  frL_gens g 0 ps x.1 (h ▸ List.mem_map_of_mem hx)
end
/-- a base that is written is read. -/
theorem baseOf_enc {g : Nat} (hg : g < 4294967296) {ps : List (List UInt8)} (hp : ∀ p ∈ ps, p.length ≤ 65536) (hl : ps.length < 4294967296) : baseOf (encR g (be4 ps.length :: ps)) = some (g, ps) := by
  have h := frs_enc (b := encR g (be4 ps.length :: ps)) (q := []) hg (List.append_nil _).symm (fun p hp2 => by
    rcases List.mem_cons.1 hp2 with h0 | h0
    · rw [h0, be4_length]; omega
    · exact hp p h0) (frAt_end (Nat.le_refl _))
  have h1 := pays_frL h
  have h2 := endOf_frL h
  have h3 := gens_frL h
  unfold baseOf
  revert h1 h2 h3
  cases frs (encR g (be4 ps.length :: ps)) with
  | nil => intro h1; simp [pays] at h1
  | cons x xs =>
    intro h1 h2 h3
    simp only [pays, List.map_cons, List.cons.injEq] at h1
    obtain ⟨e1, e2⟩ := h1
    have hx := h3 x (by simp)
    have hxl : xs.length = ps.length := by have := congrArg List.length e2; rw [List.length_map] at this; exact this
    have hn : num4 x.1.pay = ps.length := by rw [e1]; have := num4_be4 ps.length hl []; rwa [List.append_nil] at this
    simp only
    rw [if_pos ⟨by rw [e1]; rfl, fun y hy => by rw [hx, h3 y (by simp [hy])], h2, by rw [hn, hxl]⟩, hx]
    congr 2
/-- the frames of another generation are none of these. -/
theorem sameGen_other {b : List UInt8} {g gen : Nat} {ps : List (List UInt8)} {l : List (FrOf b)} (h : l.map (·.1) = frL g 0 ps) (hne : g ≠ gen) : sameGen gen l = [] := by
  cases l with
  | nil => rfl
  | cons x l =>
    have := gens_frL h x (by simp)
    unfold sameGen
    rw [List.takeWhile_cons, if_neg (by simp; omega)]
theorem take_split {α : Type} (l : List α) {m k : Nat} (h : m ≤ k) (hk : k ≤ l.length) : ∃ r, l.take k = l.take m ++ r ∧ r.length = k - m := by
  refine ⟨(l.take k).drop m, ?_, by simp; omega⟩
  have := List.take_append_drop m (l.take k)
  rw [List.take_take, Nat.min_eq_left h] at this
  exact this.symm
/-- the records at the front of what is written. -/
theorem front_of (g : Nat) : ∀ (ps : List (List UInt8)) (n : Nat), n ≤ (encR g ps).length → ∃ m q, m ≤ ps.length ∧ (encR g ps).take n = encR g (ps.take m) ++ q ∧ (q = [] ∨ ∃ p, ps[m]? = some p ∧ q <+: frameB g p ∧ q.length < 12 + p.length)
  | [], n, h => ⟨0, [], by simp, by simp [encR], .inl rfl⟩
  | p :: ps, n, h => by
    rw [encR_cons, List.length_append, frameB_length] at h
    by_cases hn : n < 12 + p.length
    · refine ⟨0, (frameB g p).take n, by simp, ?_, .inr ⟨p, rfl, List.take_prefix _ _, by simp; omega⟩⟩
      rw [encR_cons, List.take_append_of_le_length (by rw [frameB_length]; omega)]
      simp [encR]
    · obtain ⟨m, q, h1, h2, h3⟩ := front_of g ps (n - (12 + p.length)) (by omega)
      refine ⟨m + 1, q, by simp; omega, ?_, ?_⟩
      · rw [encR_cons, List.take_append, frameB_length, List.take_of_length_le (by rw [frameB_length]; omega), h2, List.take_succ_cons, encR_cons, List.append_assoc]
      · simpa using h3
/-- a front of what is written, read. -/
theorem frs_front {b : List UInt8} {g : Nat} (hg : g < 4294967296) {ps : List (List UInt8)} (hp : ∀ p ∈ ps, p.length ≤ 65536) {n : Nat} (hn : n ≤ (encR g ps).length) (hb : b = (encR g ps).take n) :
    ∃ m, m ≤ ps.length ∧ (frs b).map (·.1) = frL g 0 (ps.take m) ∧ (encR g (ps.take m)).length ≤ n ∧ (∀ k, k ≤ ps.length → (encR g (ps.take k)).length ≤ n → k ≤ m) := by
  obtain ⟨m, q, h1, h2, h3⟩ := front_of g ps n hn
  have hlen := congrArg List.length h2
  rw [List.length_take, List.length_append, Nat.min_eq_left hn] at hlen
  refine ⟨m, h1, frs_enc hg (q := q) (by rw [hb, h2]) (fun p hp2 => hp p (List.mem_of_mem_take hp2)) ?_, by omega, fun k hk hkn => ?_⟩
  · rcases h3 with rfl | ⟨p, h4, h5, h6⟩
    · exact frAt_end (by rw [hb, h2]; simp)
    · exact frAt_short (hp p (List.mem_of_getElem? h4)) h5 h6 (by rw [hb, h2])
  · rcases Nat.lt_or_ge m k with hmk | hmk
    · exfalso
      have hm : m < ps.length := by omega
      rcases h3 with rfl | ⟨p, h4, h5, h6⟩
      · obtain ⟨r, e, e2⟩ := take_split ps (Nat.le_of_lt hmk) hk
        rw [e, encR_append, List.length_append] at hkn
        have := encR_count g r
        simp at hlen
        omega
      · have e : ps.take (m + 1) = ps.take m ++ [p] := by rw [List.take_add_one, h4]; rfl
        obtain ⟨r, e3, -⟩ := take_split ps (Nat.succ_le_of_lt hmk) hk
        rw [e3, encR_append, List.length_append, e, encR_snoc, List.length_append, frameB_length] at hkn
        omega
    · exact hmk
end Go.Proofs.YtpdelgjfamelfaaGreat
