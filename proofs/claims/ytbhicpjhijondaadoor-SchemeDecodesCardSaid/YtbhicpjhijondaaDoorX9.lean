/- Bytes: copies, equality; scheme.written. -/
import Derived.Test.YtbhicpjhijondaaDoorX8
namespace Go.Typ
open Go.RowKit Go.Lib Go.Vfs Go.Par
def be4 (n : Nat) : List UInt8 := [(n / 16777216 % 256).toUInt8, (n / 65536 % 256).toUInt8, (n / 256 % 256).toUInt8, (n % 256).toUInt8]
theorem be4_length (n : Nat) : (be4 n).length = 4 := rfl
mutual
/-- a type's bytes. -/
def wrT : Ty → List UInt8
  | .mk k n s ts => [k.toNat.toUInt8] ++ (if k = 1 then be4 n.toNat else (if k = 2 then [s.size.toUInt8] ++ s.data.toList else []) ++ ([ts.length.toUInt8] ++ wrL ts))
def wrL : List Ty → List UInt8
  | [] => []
  | t :: ts => wrT t ++ wrL ts
end
theorem wrT_eq (T : Ty) : wrT T = [T.kind.toNat.toUInt8] ++ (if T.kind = 1 then be4 T.num.toNat else (if T.kind = 2 then [T.name.size.toUInt8] ++ T.name.data.toList else []) ++ ([T.args.length.toUInt8] ++ wrL T.args)) := by
  obtain ⟨k, n, s, ts⟩ := T; rw [wrT]; rfl
theorem wrL_step {ts : List Ty} {k : Nat} (hk : k < ts.length) : wrL (ts.drop k) = wrT ts[k] ++ wrL (ts.drop (k + 1)) := by
  rw [List.drop_eq_getElem_cons hk, wrL]
theorem shortT_name {T : Ty} (h : shortT T = true) : T.name.size ≤ 255 := by
  rw [shortT_eq, Bool.and_eq_true] at h; exact of_decide_eq_true h.1
theorem shortT_args {T : Ty} (h : shortT T = true) : T.args.length ≤ 255 := by
  rw [shortT_eq, Bool.and_eq_true, Bool.and_eq_true] at h; exact of_decide_eq_true h.2.1
theorem shortT_arg {T : Ty} (h : shortT T = true) {t : Ty} (ht : t ∈ T.args) : shortT t = true := by
  rw [shortT_eq, Bool.and_eq_true, Bool.and_eq_true] at h
  have key : ∀ ts : List Ty, shortL ts = true → ∀ t ∈ ts, shortT t = true := by
    intro ts
    induction ts with
    | nil => intro _ t ht; simp at ht
    | cons a ts ih =>
      intro h t ht
      rw [shortL, Bool.and_eq_true] at h
      rcases List.mem_cons.1 ht with rfl | ht
      · exact h.1
      · exact ih h.2 t ht
  exact key _ h.2.2 t ht
theorem wrT_len (T : Ty) : shortT T = true → (wrT T).length ≤ 300 * T.parts := by
  induction T using Ty.ind with
  | h T ih =>
    intro h
    rw [wrT_eq, T.parts_eq]
    have h1 := shortT_name h
    have key : ∀ ts : List Ty, (∀ t ∈ ts, (wrT t).length ≤ 300 * t.parts) → (wrL ts).length ≤ 300 * partsL ts := by
      intro ts
      induction ts with
      | nil => intro _; simp [wrL]
      | cons a ts ih =>
        intro h
        rw [wrL, partsL, List.length_append]
        have := h a (by simp)
        have := ih fun t ht => h t (by simp [ht])
        omega
    have h2 := key T.args fun t ht => by obtain ⟨i, hi, rfl⟩ := List.getElem_of_mem ht; exact ih i hi (shortT_arg h (List.getElem_mem hi))
    have h3 : T.name.data.toList.length = T.name.size := by rw [Array.length_toList]; rfl
    split
    · simp [be4_length]; omega
    · split
      · simp only [List.length_append, List.length_singleton]; omega
      · simp only [List.length_append, List.length_singleton, List.length_nil]; omega
end Go.Typ
namespace Go.Proofs.YtbhicpjhijondaaDoor
open Go.RowKit Go.Lib Go.Vfs Go.Par Go.Typ Go.Shelf
set_option linter.unusedVariables false
set_option linter.unusedSimpArgs false

theorem ret_bool {a b : Bool} (h : a = b) : Ending.returned (.bool a) = .returned (.bool b) := by rw [h]
theorem byteE : Elem Tryd.prog 47 5 (.int .u8 0) := elem_of (b := 1) Tryd.underlying47 (by kernel_rfl) (by decide) rfl
theorem byteCells_append (a b : List UInt8) : byteCells (a ++ b) = byteCells a ++ byteCells b := by simp [byteCells]
set_option maxHeartbeats 400000 in
theorem copyBytes_any (v : Value) (l : List UInt8) (B : Nat) (w : World) (hsg : Seg w B v (Lib.byteCells l)) (hB : B ≤ w.heap.size) (hl : l.length ≤ 1000000) :
    Calls Tryd.prog 52 #[v] w fun e w' => ∃ u, e = .returned u ∧ Par.Own w' w.heap.size 5 u (Lib.byteCells l) ∧ Below w.heap.size w w' := by
  have hown := Par.Own.new w w.heap.size 5 #[] [] rfl (Nat.le_refl _) (by simp)
  have hb0 : Below w.heap.size w (w.alloc (.cells #[] 5)) := (Below.refl _ w).alloc (Nat.le_refl _) _
  have hsg1 := hsg.below (hb0.mono hB)
  clear hsg
  go_enter Tryd.func52, Tryd.ntmps52
  go_wp2_with (at_builtin; refine wpList_app _ rfl _ _ _ rfl w.heap.size 5 _ byteE _ _ rfl hown _ v _ rfl hsg1 (one_bytes _) ?c1 ?c2 ?_)
  case c1 => rw [Lib.byteCells_length]; simp only [List.length_nil]; omega
  case c2 => first | omega | (simp; done) | (simp; omega)
  intro v3 w3 hown4 hg3 hat3
  go_wp2
  go_ret
  exact ⟨_, rfl, by simpa using hown4, below_app hb0 hown hg3 (by simp)⟩

set_option maxHeartbeats 400000 in
theorem sameBytes_any (u v : Value) (xs ys : List UInt8) (B : Nat) (w : World) (hu : Seg w B u (Lib.byteCells xs)) (hv : Seg w B v (Lib.byteCells ys)) :
    Calls Tryd.prog 41 #[u, v] w fun e w' => e = .returned (.bool (decide (xs = ys))) ∧ ∃ n, w' = w.drewN n := by
  obtain ⟨A, c, rfl, hc, hm, ha⟩ := hu.open_bytes
  obtain ⟨A', c', rfl, hc', hm', ha'⟩ := hv.open_bytes
  clear hu hv
  by_cases hl : xs.length = ys.length
  · have hne : ((xs.length : Int) != (ys.length : Int)) = false := by simp [hl]
    have Hl := Lib.hid hl
    clear hl
    go_enter Tryd.func41, Tryd.ntmps41
    go_wp2
    go_loopw [5] (fun i wr => ∃ k n : Nat, k ≤ xs.length ∧ i = .int .i64 k ∧ Agree k xs ys ∧ wr = w.drewN n) (fun i _ => xs.length - (RowKit.intOf i).toNat)
    case atStart => exact ⟨0, 0, by omega, rfl, Agree.zero _ _, rfl⟩
    case round =>
      obtain ⟨k, n, hk, rfl, hal, rfl⟩ := hrel
      by_cases hlt : k < xs.length
      · have hlt' : k < ys.length := by have := Hl.out; omega
        obtain ⟨b, off, x, rfl, hb, hc1, hx, Hx⟩ := ha.byte hlt
        obtain ⟨b', off', y, rfl, hb', hc2, hy, Hy⟩ := ha'.byte hlt'
        have HA := Lib.hid ha; clear ha
        have HA' := Lib.hid ha'; clear ha'
        by_cases he : x = y
        · have hbe : ((x : Int) != (y : Int)) = false := by simp [he]
          have He := Lib.hid he
          clear he
          go_wp2
          go_quiet (fail)
          go_wp2
          go_roundw
          case rel => exact ⟨k + 1, _, by omega, by go_num, hal.step hlt hlt' 0 (UInt8.toNat_inj.1 (by rw [Hx.out, Hy.out, He.out])), rfl⟩
          case measure => simp [RowKit.intOf]; omega
        · have hbe : ((x : Int) != (y : Int)) = true := by simp; omega
          have He := Lib.hid he
          clear he
          go_wp2
          go_quiet (fail)
          go_wp2
          go_ret
          refine ⟨ret_bool ?_, _, World.drewN_drewN _ _ _⟩
          have h1 := Hx.out
          have h2 := Hy.out
          have h3 := He.out
          simp
          rintro rfl
          exact h3 (h1.symm.trans h2)
      · have hkl : k = xs.length := by omega
        have Hk := Lib.hid hkl
        clear hkl
        go_wp2
        go_ret
        refine ⟨ret_bool ?_, _, rfl⟩
        rw [Hk.out] at hal
        simp [hal.whole Hl.out]
  · have hne : ((xs.length : Int) != (ys.length : Int)) = true := by simp; omega
    have Hl := Lib.hid hl
    clear hl
    go_enter Tryd.func41, Tryd.ntmps41
    go_wp2
    go_ret
    refine ⟨ret_bool ?_, 0, rfl⟩
    have := Hl.out
    simp
    rintro rfl
    exact this rfl

end Go.Proofs.YtbhicpjhijondaaDoor
