/- What opening answers, in numbers; the file system and the reference beside one another, call by call. -/
import Derived.Test.YtpdelgjfamelfaaGreatK6
import Derived.Test.YtpdelgjfamelfaaGreatJ23
namespace Go.Proofs.YtpdelgjfamelfaaGreat
open Go.RowKit Go.Lib Go.Vfs Go.Par Go.Shelf
set_option linter.unusedVariables false
set_option linter.unusedSimpArgs false

theorem doSt_calm {st : St} {fs : List File} {k d : Nat} (h : Calm st.files k d) (h2 : Calm fs k d) : Calm (doSt st fs).1.files k d := by
  unfold doSt; split <;> assumption
theorem doSt_power {st : St} {fs : List File} (h : st.power ≤ 9223372036854775807) : (doSt st fs).1.power ≤ 9223372036854775807 := by
  unfold doSt; split
  · exact h
  · have := dec_le st.power; simp only; omega
theorem doSt_pos {st : St} {fs : List File} {n : Int} (h : (doSt st fs).2 = n) : n = 0 ∨ n = 13 := by
  unfold doSt at h; split at h
  · exact .inr h.symm
  · exact .inl h.symm
theorem remove_calm {st : St} {k d : Nat} (h : Calm st.files k d) (s : List UInt8) : Calm (stRemove st s).1.files k d := by
  unfold stRemove; split
  · exact h
  · exact doSt_calm h (h.dropL _)
theorem remove_power {st : St} (h : st.power ≤ 9223372036854775807) (s : List UInt8) : (stRemove st s).1.power ≤ 9223372036854775807 := by
  unfold stRemove; split
  · exact h
  · exact doSt_power h
theorem trunc_calm {st : St} {k d : Nat} (h : Calm st.files k d) (s : List UInt8) (n : Int) : Calm (stTruncate st s n).1.files (k + 1) d := by
  unfold stTruncate
  have h' := h.mono (Nat.le_succ k) (Nat.le_refl d)
  split
  · exact h'
  · rename_i f hf
    obtain ⟨hm, hn, hb⟩ := find_ok hf
    split
    · exact h'
    · refine doSt_calm h' (h.withL (by rw [hn]; exact hb) ?_ ?_)
      · have := h.data f hm; simp only [List.length_take]; omega
      · have := h.safe f hm; simp only [List.length_take]; omega
theorem trunc_power {st : St} (h : st.power ≤ 9223372036854775807) (s : List UInt8) (n : Int) : (stTruncate st s n).1.power ≤ 9223372036854775807 := by
  unfold stTruncate; split
  · exact h
  · split
    · exact h
    · exact doSt_power h
theorem sync_calm {st : St} {k d : Nat} (h : Calm st.files k d) (s : List UInt8) : Calm (stSync st s).1.files (k + 1) d := by
  unfold stSync
  have h' := h.mono (Nat.le_succ k) (Nat.le_refl d)
  split
  · exact h'
  · rename_i f hf
    obtain ⟨hm, hn, hb⟩ := find_ok hf
    exact doSt_calm h' (h.withL (by rw [hn]; exact hb) (h.data f hm) (Nat.le_refl _))
theorem sync_power {st : St} (h : st.power ≤ 9223372036854775807) (s : List UInt8) : (stSync st s).1.power ≤ 9223372036854775807 := by
  unfold stSync; split
  · exact h
  · exact doSt_power h
theorem append_calm {st : St} {k d : Nat} (h : Calm st.files k d) (s L : List UInt8) : Calm (stAppend st s L).1.files (k + 1) (d + L.length) := by
  unfold stAppend
  have h' := h.mono (Nat.le_succ k) (Nat.le_add_right d L.length)
  split
  · rename_i hb
    exact doSt_calm h' (h.app hb)
  · exact h'
theorem append_power {st : St} (h : st.power ≤ 9223372036854775807) (s L : List UInt8) : (stAppend st s L).1.power ≤ 9223372036854775807 := by
  unfold stAppend; split
  · exact doSt_power h
  · exact h
theorem open1_calm {st : St} {k d : Nat} (h : Calm st.files k d) : Calm (open1 st).1.files k d := by
  unfold open1; split
  · exact remove_calm h _
  · exact h
theorem open1_power {st : St} (h : st.power ≤ 9223372036854775807) : (open1 st).1.power ≤ 9223372036854775807 := by
  unfold open1; split
  · exact remove_power h _
  · exact h
theorem open2_calm {st : St} {k d : Nat} (h : Calm st.files k d) (g : Nat) : Calm (open2 st g).1.files (k + 1) d := by
  have h' := h.mono (Nat.le_succ k) (Nat.le_refl d)
  unfold open2; split
  · exact h'
  · split
    · exact trunc_calm h _ _
    · exact h'
theorem open2_power {st : St} (h : st.power ≤ 9223372036854775807) (g : Nat) : (open2 st g).1.power ≤ 9223372036854775807 := by
  unfold open2; split
  · exact h
  · split
    · exact trunc_power h _ _
    · exact h
theorem open_calm {st : St} {k d : Nat} (h : Calm st.files k d) : Calm (openSt st).1.files (k + 1) d := by
  have h1 := open1_calm h
  have h' := h1.mono (Nat.le_succ k) (Nat.le_refl d)
  unfold openSt; split
  · split
    · exact h'
    · split
      · exact open2_calm h1 _
      · exact open2_calm h1 _
  · exact h'
theorem open_power {st : St} (h : st.power ≤ 9223372036854775807) : (openSt st).1.power ≤ 9223372036854775807 := by
  have h1 := open1_power h
  unfold openSt; split
  · split
    · exact h1
    · split
      · exact open2_power h1 _
      · exact open2_power h1 _
  · exact h1
/-- an error is none of the numbers of OK. -/
theorem open_error {st st' : St} {n : Int} (h : openSt st = (st', .error n)) : n ≠ 0 := by
  unfold openSt at h; split at h
  · split at h
    · injection h with _ h; injection h with h; omega
    · split at h
      · injection h with _ h; cases h
      · rename_i hne; injection h with _ h; injection h with h; omega
  · rename_i hne; injection h with _ h; injection h with h; omega
theorem pays_le {b : List UInt8} {l : List (FrOf b)} : ∀ p ∈ pays l, p.length ≤ 65536 := fun p hp => by
  obtain ⟨x, hx, rfl⟩ := List.mem_map.1 hp
  exact (frAt_some x.2).2.2.2.2.2
theorem sameGen_len {b : List UInt8} {g : Nat} (l : List (FrOf b)) : (sameGen g l).length ≤ l.length := by
  unfold sameGen
  exact (List.takeWhile_sublist _).length_le
theorem openRecs_le {st : St} {k d : Nat} (h : Calm st.files k d) (g : Nat) : (openRecs st g).length ≤ d + 1 ∧ ∀ p ∈ openRecs st g, p.length ≤ 65536 := by
  unfold openRecs; split
  · exact ⟨by simp, by simp⟩
  · rename_i f hf
    refine ⟨?_, pays_le⟩
    have := h.data f (findL_some hf).1
    have h2 := frs_length f.data
    have h3 := sameGen_len (g := g) (frs f.data)
    unfold pays; rw [List.length_map]; omega
theorem baseOf_le {b : List UInt8} {x : Nat × List (List UInt8)} (h : baseOf b = some x) : x.2.length ≤ b.length + 1 ∧ (∀ p ∈ x.2, p.length ≤ 65536) ∧ x.1 < 4294967296 := by
  unfold baseOf at h
  have hl := frs_length b
  split at h
  · cases h
  · rename_i y ys hys
    rw [hys] at hl
    split at h
    · injection h with h; subst h
      refine ⟨?_, pays_le, (frAt_some y.2).2.2.2.2.1⟩
      unfold pays; simp at hl ⊢; omega
    · cases h
theorem openBase_le {st : St} {k d : Nat} (h : Calm st.files k d) {x : Nat × List (List UInt8)} (hx : openBase st = some x) : x.2.length ≤ d + 1 ∧ (∀ p ∈ x.2, p.length ≤ 65536) ∧ x.1 < 4294967296 := by
  unfold openBase at hx; split at hx
  · injection hx with hx; subst hx; exact ⟨by simp, by simp, by simp⟩
  · rename_i f hf
    have := h.data f (findL_some hf).1
    obtain ⟨h1, h2, h3⟩ := baseOf_le hx
    exact ⟨by omega, h2, h3⟩
/-- how many records were opened, and how long they are. -/
theorem open_le {st st' : St} {k d : Nat} (h : Calm st.files k d) {x : Nat × List (List UInt8) × List (List UInt8)} (hx : openSt st = (st', .ok x)) : (x.2.1.length ≤ d + 1 ∧ ∀ p ∈ x.2.1, p.length ≤ 65536) ∧ (x.2.2.length ≤ d + 1 ∧ ∀ p ∈ x.2.2, p.length ≤ 65536) ∧ x.1 < 4294967296 := by
  have h1 := open1_calm h
  unfold openSt at hx; split at hx
  · split at hx
    · injection hx with _ hx; cases hx
    · rename_i y hy
      split at hx
      · injection hx with _ hx; injection hx with hx; subst hx
        obtain ⟨a, b, c⟩ := openBase_le h1 hy
        exact ⟨⟨a, b⟩, openRecs_le h1 _, c⟩
      · injection hx with _ hx; cases hx
  · injection hx with _ hx; cases hx

/-- the error of an answer. -/
def resErr (r : Except Int (Nat × List (List UInt8) × List (List UInt8))) : Int := match r with | .error n => n | .ok _ => 0
/-- the journal of an answer. -/
def JRes (w w' : World) (p : Nat) (F' : Nat → Prop) (r : St × Except Int (Nat × List (List UInt8) × List (List UInt8))) (jv : Option Addr) : Prop := match r.2 with
  | .error _ => jv = none
  | .ok x => ∃ pj G, jv = some ⟨pj, 0, none⟩ ∧ JF w' pj p r.1 x.1 x.2.1 x.2.2 F' G ∧ ∀ k, G k → w.heap.size ≤ k
theorem OpenPost.both {w w' : World} {p : Nat} {F : Nat → Prop} {r : St × Except Int (Nat × List (List UInt8) × List (List UInt8))} {e : Ending} (h : OpenPost w p F r e w') : ∃ F' jv, e = .returned (.tuple #[.pointer jv, .int .i64 (resErr r.2)]) ∧ Fsy w' p r.1 F' ∧ Kept F w w' ∧ Grows w F F' ∧ JRes w w' p F' r jv := by
  obtain ⟨F', h1, h2, h3, h4⟩ := h
  obtain ⟨s, res⟩ := r
  cases res with
  | error n => exact ⟨F', none, h4, h1, h2, h3, rfl⟩
  | ok x =>
    obtain ⟨pj, G, he, h5, h6⟩ := h4
    exact ⟨F', _, he, h1, h2, h3, pj, G, rfl, h5, h6⟩
/-- the reference's journal in an answer. -/
def RRes (w w' : World) (r : Except Int (Nat × List (List UInt8) × List (List UInt8))) (gen : Int) (bv rv : Value) : Prop := match r with
  | .error _ => True
  | .ok x => gen = (x.1 : Nat) ∧ RowsAt (fun b => w.heap.size ≤ b ∧ b < w'.heap.size) w' bv x.2.1 ∧ RowsAt (fun b => w.heap.size ≤ b ∧ b < w'.heap.size) w' rv x.2.2
theorem ROPost.both {w w' : World} {S : Nat → Prop} {r : St × Except Int (Nat × List (List UInt8) × List (List UInt8))} {e : Ending} (h : ROPost w S r e w') : ∃ A n c gen Ab nb cb Ar nr cr, e = .returned (.tuple #[.agg #[.int .i64 r.1.power, .slice A n c, .int .i64 gen, .slice Ab nb cb, .slice Ar nr cr], .int .i64 (resErr r.2)]) ∧ Hid (RefS (New S w w') w' (.slice A n c) r.1.files) ∧ Hid (Below w.heap.size w w') ∧ Hid (RRes w w' r.2 gen (.slice Ab nb cb) (.slice Ar nr cr)) := by
  obtain ⟨v', bv, rv, gen, er, rfl, h1, h2, ⟨Ab, nb, cb, rfl⟩, ⟨Ar, nr, cr, rfl⟩, h3⟩ := h
  obtain ⟨A, c, rfl, -, -⟩ := h1.form
  obtain ⟨s, res⟩ := r
  cases res with
  | error n => simp only at h3; subst h3; exact ⟨A, _, c, gen, Ab, nb, cb, Ar, nr, cr, rfl, Lib.hid h1, Lib.hid h2, Lib.hid trivial⟩
  | ok x =>
    obtain ⟨rfl, h4, h5, h6⟩ := h3
    exact ⟨A, _, c, gen, Ab, nb, cb, Ar, nr, cr, rfl, Lib.hid h1, Lib.hid h2, Lib.hid ⟨h4, h5, h6⟩⟩

section
variable {W w w' : World} {p : Nat} {st : St} {F : Nat → Prop} {bm : Nat} {sm : St} {v : Value}
/-- behind a call of the file system. -/
theorem Pair.op (h : Pair W w p st F bm sm v) {st' : St} {F' : Nat → Prop} (g1 : Fsy w' p st' F') (g2 : Kept F w w') (g3 : Grows w F F') : Pair W w' p st' F' bm sm v := by
  have hlt := h.lt
  refine ⟨h.held.op (Nat.le_refl _) g1 g2 g3, (g2.block _ hlt h.out).trans h.box, h.lo, fun hf => ?_, ?_⟩
  · rcases g3 _ hf with a | a
    · exact h.out a
    · omega
  · exact h.ref.keep fun b ⟨b1, b2, b3, b4⟩ => ⟨⟨b1, Nat.lt_of_lt_of_le b2 g2.size, fun hf => by rcases g3 _ hf with a | a; exact b3 a; omega, b4⟩, g2.block b b2 b3⟩
/-- two files of the law's own, and two rows of names and of bytes in memory. -/
structure Duo (W w : World) (p : Nat) (st : St) (F : Nat → Prop) (bm : Nat) (sm : St) (v : Value) (bn bd : Nat) (va vb : Value) (base log : List UInt8) : Prop where
  pair : Pair W w p st F bm sm v
  nm : w.heap[bn]? = some (.cells #[.string ⟨#[98, 97, 115, 101]⟩, .string ⟨#[108, 111, 103]⟩, .string ⟨#[110, 101, 120, 116]⟩] 29 (0, 0))
  dt : w.heap[bd]? = some (.cells #[va, vb, va] 30 (0, 0))
  nmo : ¬ F bn ∧ bn ≠ bm
  dto : ¬ F bd ∧ bd ≠ bm
  sa : Seg W W.heap.size va (byteCells base)
  sb : Seg W W.heap.size vb (byteCells log)
variable {bn bd : Nat} {va vb : Value} {base log : List UInt8}
theorem Duo.nlt (h : Duo W w p st F bm sm v bn bd va vb base log) : bn < w.heap.size ∧ bd < w.heap.size := ⟨lt_of_block h.nm, lt_of_block h.dt⟩
theorem Duo.go (h : Duo W w p st F bm sm v bn bd va vb base log) (hb : Below w.heap.size w w') : Duo W w' p st F bm sm v bn bd va vb base log :=
  ⟨h.pair.go hb, (hb.block _ h.nlt.1).trans h.nm, (hb.block _ h.nlt.2).trans h.dt, h.nmo, h.dto, h.sa, h.sb⟩
theorem Duo.op (h : Duo W w p st F bm sm v bn bd va vb base log) {st' : St} {F' : Nat → Prop} (g1 : Fsy w' p st' F') (g2 : Kept F w w') (g3 : Grows w F F') : Duo W w' p st' F' bm sm v bn bd va vb base log := by
  obtain ⟨l1, l2⟩ := h.nlt
  refine ⟨h.pair.op g1 g2 g3, (g2.block _ l1 h.nmo.1).trans h.nm, (g2.block _ l2 h.dto.1).trans h.dt, ⟨fun hf => ?_, h.nmo.2⟩, ⟨fun hf => ?_, h.dto.2⟩, h.sa, h.sb⟩
  · rcases g3 _ hf with a | a
    · exact h.nmo.1 a
    · omega
  · rcases g3 _ hf with a | a
    · exact h.dto.1 a
    · omega
theorem Duo.store (h : Duo W w p st F bm sm v bn bd va vb base log) {sm' : St} {v' : Value} (hr : RefS (PS W w F bm) w v' sm'.files) : Duo W ((w.setCell ⟨bm, 0, none⟩ (.int .i64 sm'.power)).setCell ⟨bm, 1, none⟩ v') p st F bm sm' v' bn bd va vb base log := by
  have hK := Pair.kept w bm (.int .i64 sm'.power) v'
  obtain ⟨l1, l2⟩ := h.nlt
  exact ⟨h.pair.store hr, (hK.block _ l1 h.nmo.2).trans h.nm, (hK.block _ l2 h.dto.2).trans h.dt, h.nmo, h.dto, h.sa, h.sb⟩
/-- the name and the bytes of place k. -/
def nmK (k : Nat) : List UInt8 := if k = 0 then nBase else if k = 1 then nLog else nNext
def dtK (base log : List UInt8) (k : Nat) : List UInt8 := if k = 1 then log else base
def vK (va vb : Value) (k : Nat) : Value := if k = 1 then vb else va
theorem nmK_name (k : Nat) : nameB (nmK k) = true := by
  unfold nmK; split
  · decide
  · split <;> decide
theorem nmK_len (k : Nat) : (nmK k).length ≤ 4 := by
  unfold nmK; split
  · decide
  · split <;> decide
theorem Duo.cells (h : Duo W w p st F bm sm v bn bd va vb base log) {k : Nat} (hk : k < 3) : w.cell? ⟨bn, k, none⟩ = some (.string ⟨(nmK k).toArray⟩) ∧ w.cell? ⟨bd, k, none⟩ = some (vK va vb k) := by
  have h1 := h.nm; have h2 := h.dt
  match k, hk with
  | 0, _ => simp [World.cell?, h1, h2, nmK, vK]
  | 1, _ => simp [World.cell?, h1, h2, nmK, vK]
  | 2, _ => simp [World.cell?, h1, h2, nmK, vK]
theorem Duo.seg (h : Duo W w p st F bm sm v bn bd va vb base log) (k : Nat) : Seg w W.heap.size (vK va vb k) (byteCells (dtK base log k)) := by
  unfold vK dtK
  split
  · exact h.sb.below h.pair.held.below
  · exact h.sa.below h.pair.held.below
end
end Go.Proofs.YtpdelgjfamelfaaGreat
