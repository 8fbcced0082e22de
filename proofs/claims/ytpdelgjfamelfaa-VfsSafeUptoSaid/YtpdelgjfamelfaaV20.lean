import Derived.Test.YtpdelgjfamelfaaVA
namespace Go.Proofs.Ytpdelgjfamelfaa
open Go.RowKit Go.Lib Go.Vfs Go.Par
set_option linter.unusedVariables false

theorem intB : ElemB Try.prog 30 3 (.int .i64 0) 8 := elemB_of Try.underlying30 (by kernel_rfl) (by decide) rfl

set_option maxHeartbeats 400000 in
theorem copyInts_big (v : Value) (zs : List Int) (B : Nat) (w : World) (hsg : Seg w B v (ints zs)) (hB : B ≤ w.heap.size) (hl : zs.length ≤ 17592186043904) :
    Calls Try.prog 24 #[v] w fun e w' => ∃ u, e = .returned u ∧ Par.Own w' w.heap.size 3 u (ints zs) ∧ Below w.heap.size w w' := by
  have hown := Par.Own.new w w.heap.size 3 #[] [] rfl (Nat.le_refl _) (by simp)
  have hb0 : Below w.heap.size w (w.alloc (.cells #[] 3)) := (Below.refl _ w).alloc (Nat.le_refl _) _
  have hsg1 := hsg.below (hb0.mono hB)
  clear hsg
  go_enter Try.func24, Try.ntmps24
  go_wp2_with (at_builtin; refine wpList_appB _ rfl _ _ _ rfl w.heap.size 3 _ 8 intB _ _ rfl hown _ v _ rfl hsg1 (one_ints _) ?c1 (by decide) ?c2 ?_)
  case c1 => rw [ints_length]; simp only [List.length_nil]; omega
  case c2 => first | omega | (simp; done) | (simp; omega)
  intro v3 w3 hown4 hg3 hat3
  go_wp2
  go_ret
  exact ⟨_, rfl, by simpa using hown4, below_app hb0 hown hg3 (by simp)⟩

/-- an Op in memory: its six cells. -/
structure OpR where
  what : Int
  n : Int
  name : ByteArray
  other : ByteArray
  pv : Value
  kv : Value
  parts : List (List UInt8)
  keeps : List Int
def OpR.cells (o : OpR) : List Value := [.int .i64 o.what, .int .i64 o.n, .string o.name, .string o.other, o.pv, o.kv]
/-- an Op whose slices lie below B. -/
structure OpAt (w : World) (B : Nat) (o : OpR) : Prop where
  rows : RowsAt (· < B) w o.pv o.parts
  ints : Seg w B o.kv (ints o.keeps)
  name : o.name.size ≤ 9223372036854775807
  other : o.other.size ≤ 9223372036854775807
  few : o.keeps.length ≤ 17592186043904
/-- a slice of Ops. -/
def SegO (w : World) (B : Nat) (v : Value) (os : List OpR) : Prop :=
  ∃ A c, v = .slice A os.length c ∧ os.length ≤ c ∧ c ≤ 9223372036854775807 ∧ (∀ o ∈ os, OpAt w B o) ∧
    ∀ i (h : i < os.length), ∃ b off, A = some ⟨b, off, none⟩ ∧ b < B ∧ ∀ j, j < 6 → w.cell? ⟨b, off + i * 6 + j, none⟩ = os[i].cells[j]?
theorem OpAt.below {w w' : World} {B : Nat} {o : OpR} (h : OpAt w B o) (hb : Below B w w') : OpAt w' B o :=
  ⟨h.rows.keep fun b hk => ⟨hk, hb.block b hk⟩, h.ints.below hb, h.name, h.other, h.few⟩
theorem SegO.below {w w' : World} {B : Nat} {v : Value} {os : List OpR} (h : SegO w B v os) (hb : Below B w w') : SegO w' B v os := by
  obtain ⟨A, c, h1, h2, h3, h4, h5⟩ := h
  refine ⟨A, c, h1, h2, h3, fun o ho => (h4 o ho).below hb, fun i hi => ?_⟩
  obtain ⟨b, off, e, hbb, hc⟩ := h5 i hi
  exact ⟨b, off, e, hbb, fun j hj => by rw [hb.cell (p := ⟨b, _, none⟩) hbb]; exact hc j hj⟩
end Go.Proofs.Ytpdelgjfamelfaa
