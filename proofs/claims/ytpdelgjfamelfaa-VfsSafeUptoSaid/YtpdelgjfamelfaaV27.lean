import Derived.Test.YtpdelgjfamelfaaV26
namespace Go.Proofs.Ytpdelgjfamelfaa
open Go.RowKit Go.Lib Go.Vfs Go.Par
set_option linter.unusedVariables false
set_option linter.unusedSimpArgs false

/-- the cells of an Op in a block. -/
def Six (w : World) (b off : Nat) (o : OpR) : Prop :=
  w.cell? ⟨b, off + 0, none⟩ = some (.int .i64 o.what) ∧ w.cell? ⟨b, off + 1, none⟩ = some (.int .i64 o.n) ∧ w.cell? ⟨b, off + 2, none⟩ = some (.string o.name) ∧ w.cell? ⟨b, off + 3, none⟩ = some (.string o.other) ∧ w.cell? ⟨b, off + 4, none⟩ = some o.pv ∧ w.cell? ⟨b, off + 5, none⟩ = some o.kv
theorem SegO.six {w : World} {B : Nat} {A : Option Addr} {n c : Nat} {os : List OpR} (h : SegO w B (.slice A n c) os) (k : Nat) (hk : k < os.length) : ∃ b off, A = some ⟨b, off, none⟩ ∧ b < B ∧ Six w b (off + k * 6) os[k] := by
  obtain ⟨A', c', e, h2, h3, h4, h5⟩ := h
  injection e with e1 e2 e3
  subst e1 e3
  obtain ⟨b, off, e, hb, hc⟩ := h5 k hk
  exact ⟨b, off, e, hb, hc 0 (by omega), hc 1 (by omega), hc 2 (by omega), hc 3 (by omega), hc 4 (by omega), hc 5 (by omega)⟩
theorem SegO.form {w : World} {B : Nat} {v : Value} {os : List OpR} (h : SegO w B v os) : ∃ A c, v = .slice A os.length c ∧ os.length ≤ c ∧ c ≤ 9223372036854775807 := by
  obtain ⟨A, c, h1, h2, h3, -⟩ := h
  exact ⟨A, c, h1, h2, h3⟩
theorem SegO.op {w : World} {B : Nat} {v : Value} {os : List OpR} (h : SegO w B v os) (k : Nat) (hk : k < os.length) : OpAt w B os[k] := by
  obtain ⟨A, c, h1, h2, h3, h4, -⟩ := h
  exact h4 _ (List.getElem_mem hk)
theorem OpAt.forms {w : World} {B : Nat} {o : OpR} (h : OpAt w B o) : (∃ A n c, o.pv = .slice A n c) ∧ ∃ A n c, o.kv = .slice A n c := by
  obtain ⟨h1, ⟨A, c, h2, -⟩, -⟩ := h
  exact ⟨h1.few, A, _, c, h2⟩
theorem Six.kept {w w' : World} {F : Nat → Prop} {b off : Nat} {o : OpR} (h : Six w b off o) (hk : Kept F w w') (hb : b < w.heap.size) (hn : ¬ F b) : Six w' b off o := by
  have e : ∀ i, w'.cell? ⟨b, i, none⟩ = w.cell? ⟨b, i, none⟩ := fun i => hk.cell (p := ⟨b, i, none⟩) hb hn
  unfold Six
  simp only [e]
  exact h

theorem sizeO_nth (os : List OpR) (k : Nat) (hk : k < os.length) : sizeO (os.take k) + sizeP os[k].parts ≤ sizeO os := by
  rw [← sizeO_succ os k hk]
  exact sizeO_take os _
theorem cells_alloc6 (w : World) (o : OpR) (t : TypeId) : Six (w.alloc (.cells #[.int .i64 o.what, .int .i64 o.n, .string o.name, .string o.other, o.pv, o.kv] t)) w.heap.size 0 o := by
  unfold Six
  simp [World.cell?_alloc_mark]

/-- where the loop of VfsPower stands. -/
structure PowI (W w : World) (os : List OpR) (power : Int) (k : Nat) (p : Nat) (F : Nat → Prop) (q : Nat) (G : Nat → Prop) (left : Int) (fs : List File) : Prop where
  two : Two W.heap.size W w p ⟨left, fs⟩ F q ⟨-1, fs⟩ G
  calm : Calm fs k (sizeO (os.take k))
  left0 : 0 ≤ left
  left1 : left ≤ 9223372036854775807

theorem SegO.same {w w' : World} {B : Nat} {v : Value} {os : List OpR} (h : SegO w B v os) (hk : ∀ b, b < B → w'.heap[b]? = w.heap[b]?) : SegO w' B v os := by
  obtain ⟨A, c, h1, h2, h3, h4, h5⟩ := h
  have hc : ∀ b o, b < B → w'.cell? ⟨b, o, none⟩ = w.cell? ⟨b, o, none⟩ := fun b o hb => World.cell?_of_block (a := ⟨b, o, none⟩) (hk b hb)
  refine ⟨A, c, h1, h2, h3, fun o ho => ?_, fun i hi => ?_⟩
  · have ho' := h4 o ho
    exact ⟨ho'.rows.keep fun b hb => ⟨hb, hk b hb⟩, ho'.ints.keep fun b o hb => hc b o hb, ho'.name, ho'.other, ho'.few⟩
  · obtain ⟨b, off, e, hbb, hcc⟩ := h5 i hi
    exact ⟨b, off, e, hbb, fun j hj => by rw [hc b _ hbb]; exact hcc j hj⟩
theorem SegO.back {w w' : World} {B : Nat} {v : Value} {os : List OpR} (h : SegO w' B v os) (hb : Below B w w') : SegO w B v os := h.same fun b hlt => (hb.block b hlt).symm

theorem PowI.same {W w w' : World} {os : List OpR} {power : Int} {k p : Nat} {F F' : Nat → Prop} {q : Nat} {G G' : Nat → Prop} {left : Int} {fs : List File} (h : PowI W w os power k p F q G left fs) (h2 : Two W.heap.size W w' p ⟨left, fs⟩ F' q ⟨-1, fs⟩ G') (hk : k < os.length) : PowI W w' os power (k + 1) p F' q G' left fs :=
  ⟨h2, h.calm.mono (by omega) (by rw [sizeO_succ os k hk]; omega), h.left0, h.left1⟩
theorem dec_le (x : Int) : dec x ≤ x := by unfold dec; split <;> omega
end Go.Proofs.Ytpdelgjfamelfaa
