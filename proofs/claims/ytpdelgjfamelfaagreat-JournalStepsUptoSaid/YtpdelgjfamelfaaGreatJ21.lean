/- What the walks of the journal's laws share: their beginning; rows that are written over. -/
import Derived.Test.YtpdelgjfamelfaaGreatJ20
namespace Go.Proofs.YtpdelgjfamelfaaGreat
open Go.RowKit Go.Lib Go.Vfs Go.Par Go.Shelf
set_option linter.unusedVariables false
set_option linter.unusedSimpArgs false

theorem great1_any (w : World) (A : Option Addr) (c : Nat) (ls : List (List UInt8)) (hrows : RowsAt (· < w.heap.size) w (.slice A ls.length c) ls) (hok : RowsOk ls) :
    Calls Tryz.prog 22 #[.slice (some ⟨w.heap.size, 0, none⟩) 1 1] (w.alloc (.cells #[.int .i64 0, .int .i64 0, .slice A ls.length c, .slice none 0 0] 59)) fun e w' => ∃ b, e = .returned (.bool b) ∧ w.alloc (.cells #[.int .i64 0, .int .i64 0, .slice A ls.length c, .slice none 0 0] 59) = w' ∧ (ls.length ≤ 60 → b = decide (5000 < sizeR ls)) := by
  have hb := box_below w (.cells #[.int .i64 0, .int .i64 0, .slice A ls.length c, .slice none 0 0] 59)
  have hs : SegG (w.alloc (.cells #[.int .i64 0, .int .i64 0, .slice A ls.length c, .slice none 0 0] 59)) w.heap.size [ls] := fun k hk => by
    have : k = 0 := by simp at hk; omega
    subst this
    exact ⟨A, c, by simp, hrows.keep fun b hb2 => ⟨Nat.lt_of_lt_of_le hb2 hb.size, hb.block b hb2⟩⟩
  by_cases hfew : ls.length ≤ 60
  · refine (great_few w.heap.size 1 [ls] rfl (by omega) _ (by simp) hs (fun rs hrs => by simp at hrs; subst hrs; exact ⟨hfew, hok.2⟩)).mono ?_
    rintro e w' ⟨rfl, rfl⟩
    exact ⟨_, rfl, rfl, fun _ => by simp [sizeG]⟩
  · refine (great_many w.heap.size 1 [ls] rfl (by omega) _ (by simp) hs (fun rs hrs => by simp at hrs; subst hrs; exact hok)).mono ?_
    rintro e w' ⟨⟨b, rfl⟩, rfl⟩
    exact ⟨b, rfl, rfl, fun h => absurd h hfew⟩
theorem great2_any (w : World) (A A' : Option Addr) (c c' : Nat) (ls ms : List (List UInt8)) (hrows : RowsAt (· < w.heap.size) w (.slice A ls.length c) ls) (hrows' : RowsAt (· < w.heap.size) w (.slice A' ms.length c') ms) (hok : RowsOk ls) (hok' : RowsOk ms) :
    Calls Tryz.prog 22 #[.slice (some ⟨w.heap.size, 0, none⟩) 2 2] (w.alloc (.cells #[.int .i64 0, .int .i64 0, .slice A ls.length c, .slice none 0 0, .int .i64 0, .int .i64 0, .slice A' ms.length c', .slice none 0 0] 59)) fun e w' => ∃ b, e = .returned (.bool b) ∧
      w.alloc (.cells #[.int .i64 0, .int .i64 0, .slice A ls.length c, .slice none 0 0, .int .i64 0, .int .i64 0, .slice A' ms.length c', .slice none 0 0] 59) = w' ∧ (ls.length ≤ 60 → ms.length ≤ 60 → b = decide (5000 < sizeR ls + sizeR ms)) := by
  have hb := box_below w (.cells #[.int .i64 0, .int .i64 0, .slice A ls.length c, .slice none 0 0, .int .i64 0, .int .i64 0, .slice A' ms.length c', .slice none 0 0] 59)
  have hs : SegG (w.alloc (.cells #[.int .i64 0, .int .i64 0, .slice A ls.length c, .slice none 0 0, .int .i64 0, .int .i64 0, .slice A' ms.length c', .slice none 0 0] 59)) w.heap.size [ls, ms] := fun k hk => by
    rcases (show k = 0 ∨ k = 1 by simp at hk; omega) with rfl | rfl
    · exact ⟨A, c, by simp, hrows.keep fun b hb2 => ⟨Nat.lt_of_lt_of_le hb2 hb.size, hb.block b hb2⟩⟩
    · exact ⟨A', c', by simp, hrows'.keep fun b hb2 => ⟨Nat.lt_of_lt_of_le hb2 hb.size, hb.block b hb2⟩⟩
  by_cases hfew : ls.length ≤ 60 ∧ ms.length ≤ 60
  · refine (great_few w.heap.size 2 [ls, ms] rfl (by omega) _ (by simp) hs (fun rs hrs => by simp at hrs; rcases hrs with rfl | rfl; exact ⟨hfew.1, hok.2⟩; exact ⟨hfew.2, hok'.2⟩)).mono ?_
    rintro e w' ⟨rfl, rfl⟩
    exact ⟨_, rfl, rfl, fun _ _ => by simp [sizeG]⟩
  · refine (great_many w.heap.size 2 [ls, ms] rfl (by omega) _ (by simp) hs (fun rs hrs => by simp at hrs; rcases hrs with rfl | rfl; exact hok; exact hok')).mono ?_
    rintro e w' ⟨⟨b, rfl⟩, rfl⟩
    exact ⟨b, rfl, rfl, fun h h' => absurd ⟨h, h'⟩ hfew⟩
theorem sizeR_mem {ls : List (List UInt8)} {l : List UInt8} (h : l ∈ ls) : l.length ≤ sizeR ls := by
  unfold sizeR
  induction ls with
  | nil => cases h
  | cons x ls ih =>
    rw [List.map_cons, List.sum_cons]
    rcases List.mem_cons.1 h with rfl | h
    · omega
    · have := ih h; omega
theorem sizeR_flat : ∀ ls : List (List UInt8), ls.length + ls.flatten.length = sizeR ls
  | [] => rfl
  | x :: ls => by
    have := sizeR_flat ls
    have e : sizeR (x :: ls) = (1 + x.length) + sizeR ls := rfl
    rw [e, List.flatten_cons, List.length_append, List.length_cons]; omega
theorem jAppend_on (fs : List File) (gen : Nat) (log : List (List UInt8)) (pay : List UInt8) : jAppend ⟨-1, fs⟩ gen log pay = (⟨-1, appF nLog (frameB gen pay) fs⟩, 0, log ++ [pay]) := by
  unfold jAppend stAppend
  rw [if_pos (by decide), do_on (by decide)]
  rfl

/-- rows from the k-th on own their memory still; none of it is the journal's. -/
structure OwnS (w : World) (B : Nat) (u : Value) (us : List Value) (ls : List (List UInt8)) (k : Nat) (N : Nat → Prop) : Prop where
  row : Par.Own w B 22 u us
  len : us.length = ls.length
  rest : ∀ j, k ≤ j → j < ls.length → Par.Own w B 5 (us.getD j (.bool false)) (byteCells (ls.getD j []))
  sep : ∀ i j, i < j → j < ls.length → ∀ g, (us.getD i (.bool false)).ownBlock = some g → (us.getD j (.bool false)).ownBlock ≠ some g
  vsep : ∀ i, i < ls.length → ∀ g, (us.getD i (.bool false)).ownBlock = some g → u.ownBlock ≠ some g
  out : ∀ g, (u.ownBlock = some g ∨ ∃ j, j < ls.length ∧ (us.getD j (.bool false)).ownBlock = some g) → ¬ N g ∧ g < w.heap.size ∧ B ≤ g
section
variable {w w' : World} {B k : Nat} {u : Value} {us : List Value} {ls : List (List UInt8)} {N N' : Nat → Prop}
theorem RowedX.ownS {w0 : World} (h : RowedX w0 ls ls.length u us w) (hN : ∀ g, N g → g < w0.heap.size) : OwnS w w0.heap.size u us ls 0 N :=
  ⟨h.own, h.len, fun j _ hj => h.each j hj, h.sep, h.vsep, fun g hg => by
    have : w0.heap.size ≤ g ∧ g < w.heap.size := by
      rcases hg with hg | ⟨j, hj, hg⟩
      · exact h.own.lt g hg
      · exact (h.each j hj).lt g hg
    exact ⟨fun hn => by have := hN g hn; omega, this.2, this.1⟩⟩
/-- through what leaves all but N as it lay. -/
theorem OwnS.kept (h : OwnS w B u us ls k N) (hk : Kept N w w') (hg : Grows w N N') : OwnS w' B u us ls k N' := by
  have same : ∀ g, (u.ownBlock = some g ∨ ∃ j, j < ls.length ∧ (us.getD j (.bool false)).ownBlock = some g) → w'.heap[g]? = w.heap[g]? := fun g hgo => hk.block g (h.out g hgo).2.1 (h.out g hgo).1
  refine ⟨own_turn h.row fun g e => same g (.inl e), h.len, fun j hj hjl => own_turn (h.rest j hj hjl) fun g e => same g (.inr ⟨j, hjl, e⟩), h.sep, h.vsep, fun g hgo => ?_⟩
  obtain ⟨h1, h2, h3⟩ := h.out g hgo
  refine ⟨fun hn => ?_, by have := hk.size; omega, h3⟩
  rcases hg g hn with h4 | h4
  · exact h1 h4
  · omega
theorem OwnS.mono (h : OwnS w B u us ls k N) (hN : ∀ g, N' g → N g) : OwnS w B u us ls k N' := ⟨h.row, h.len, h.rest, h.sep, h.vsep, fun g hg => ⟨fun hn => (h.out g hg).1 (hN g hn), (h.out g hg).2⟩⟩
theorem OwnS.below (h : OwnS w B u us ls k N) (hb : Below w.heap.size w w') : OwnS w' B u us ls k N := h.kept (Kept.of_below hb) (Grows.refl _ _)
/-- the k-th row was written over. -/
theorem OwnS.flip (h : OwnS w B u us ls k N) (hk : k < ls.length) {A : Option Addr} {n c : Nat} (hu : us.getD k (.bool false) = .slice A n c) (hf : Flip w A n w') : OwnS w' B u us ls (k + 1) N := by
  have hb : ∀ g, (Value.slice A n c).ownBlock = some g → A.map (·.block) = some g := fun g e => by cases A <;> simp [Value.ownBlock] at e ⊢; exact e
  have hb2 : ∀ g, A.map (·.block) = some g → (us.getD k (.bool false)).ownBlock = some g := fun g e => by rw [hu]; cases A <;> simp [Value.ownBlock] at e ⊢; exact e
  have hs := hf.2.1
  refine ⟨own_turn h.row fun g e => hf.1.block g (h.out g (.inl e)).2.1 (fun e2 => h.vsep k hk g (hb2 g e2) e), h.len, fun j hj hjl => own_turn (h.rest j (by omega) hjl) fun g e => hf.1.block g (h.out g (.inr ⟨j, hjl, e⟩)).2.1 (fun e2 => h.sep k j (by omega) hjl g (hb2 g e2) e), h.sep, h.vsep, fun g hg => by
    obtain ⟨h1, h2, h3⟩ := h.out g hg
    exact ⟨h1, by omega, h3⟩⟩
/-- the k-th row as a value. -/
theorem OwnS.cell (h : OwnS w B u us ls k N) (hk : k < ls.length) : ∃ g A c, u.ownBlock = some g ∧ us.getD k (.bool false) = .slice A (ls.getD k []).length c ∧ (∃ c', u = .slice (some ⟨g, 0, none⟩) ls.length c') ∧ w.cell? ⟨g, k, none⟩ = some (.slice A (ls.getD k []).length c) ∧ g < w.heap.size := by
  obtain ⟨A, c, hA⟩ := Own.formB (h.rest k (Nat.le_refl _) hk)
  rcases h.row.2 with ⟨hu, h0⟩ | ⟨g, cap, cur, hu, hg, hh, hnc, hcm, hsz, htake⟩
  · rw [h.len] at h0; omega
  · have hlen := h.len
    refine ⟨g, A, c, by rw [hu]; rfl, hA, ⟨cap, by rw [hu, hlen]⟩, ?_, lt_of_block hh⟩
    have hrow := h.row
    have hc := World.ownsRow.cells (g := g) hrow (by rw [hu]; rfl) k (us[k]'(by omega)) (List.getElem?_eq_getElem (by omega))
    rw [add_addr] at hc
    rw [show us.getD k (.bool false) = us[k]'(by omega) by simp [List.getD_eq_getElem?_getD, show k < us.length by omega]] at hA
    rw [← hA]
    simpa using hc
end
/-- a journal that is held, through bytes of one's own that were written. -/
theorem JH.flip {B : Nat} {w0 w w' : World} {pj p gen : Nat} {st : St} {base log : List (List UInt8)} {F G : Nat → Prop} {A : Option Addr} {n : Nat} (h : JH B w0 w pj p st gen base log F G) (hB : B ≤ w0.heap.size) (hf : Flip w A n w') (hg : ∀ g, A.map (·.block) = some g → ¬ F g ∧ ¬ G g ∧ B ≤ g) : JH B w0 w' pj p st gen base log F G :=
  ⟨⟨h.jf.fs.keep fun k hk => hf.1.block k (h.jf.fs.lt k hk) (fun e => (hg k e).1 hk), h.jf.js.block fun k hk => hf.1.block k (h.jf.js.lt k hk) (fun e => (hg k e).2.1 hk), h.jf.apart⟩, h.fnew, h.gnew, h.below.trans (hf.1.below (h.size hB) fun k hk => (hg k hk).2.2)⟩
end Go.Proofs.YtpdelgjfamelfaaGreat
