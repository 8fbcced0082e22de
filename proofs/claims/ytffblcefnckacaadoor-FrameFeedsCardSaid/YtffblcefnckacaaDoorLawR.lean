/- great; rows from the front; bodies one behind the other. -/
import Derived.Test.YtffblcefnckacaaDoorLawM
namespace Go.Frm
open Go.Lib
/-- the letters of a row, one more for each. -/
def totL (ls : List (List UInt8)) : Nat := (ls.map fun l => l.length + 1).sum
theorem totL_succ (ls : List (List UInt8)) (k : Nat) (h : k < ls.length) : totL (ls.take (k + 1)) = totL (ls.take k) + (1 + (ls.getD k []).length) := by
  unfold totL
  rw [List.take_succ_eq_append_getElem h, List.map_append, List.sum_append, List.getD_eq_getElem?_getD, List.getElem?_eq_getElem h]
  simp; omega
theorem totL_take (ls : List (List UInt8)) (k : Nat) : totL (ls.take k) ≤ totL ls := by
  conv => rhs; rw [← List.take_append_drop k ls]
  unfold totL
  rw [List.map_append, List.sum_append]; omega
theorem totL_mem : ∀ {ls : List (List UInt8)} {l : List UInt8}, l ∈ ls → l.length + 1 ≤ totL ls
  | x :: ls, l, h => by
    have e : totL (x :: ls) = x.length + 1 + totL ls := by simp [totL]
    rw [e]
    rcases List.mem_cons.1 h with rfl | h
    · omega
    · have := totL_mem h; omega
theorem totL_len : ∀ (ls : List (List UInt8)), ls.length ≤ totL ls
  | [] => Nat.le_refl _
  | x :: ls => by
    have e : totL (x :: ls) = x.length + 1 + totL ls := by simp [totL]
    have := totL_len ls
    rw [e, List.length_cons]; omega
theorem totL_bound (ls : List (List UInt8)) (h : ∀ l ∈ ls, l.length ≤ 140737488351232) : ∀ k, k ≤ ls.length → totL (ls.take k) ≤ k * 140737488351233
  | 0, _ => by simp [totL]
  | k + 1, hk => by
    have h1 := totL_bound ls h k (by omega)
    rw [totL_succ ls k (by omega), List.getD_eq_getElem?_getD, List.getElem?_eq_getElem (show k < ls.length by omega)]
    have := h _ (List.getElem_mem (show k < ls.length by omega))
    simp only [Option.getD_some]
    omega
/-- bodies, encoded, one behind the other. -/
def flatE (ls : List (List UInt8)) : List UInt8 := (ls.map enc).flatten
theorem flatE_succ (ls : List (List UInt8)) (k : Nat) (h : k < ls.length) : flatE (ls.take (k + 1)) = flatE (ls.take k) ++ enc (ls.getD k []) := by
  unfold flatE
  rw [List.take_succ_eq_append_getElem h, List.map_append, List.flatten_append, List.getD_eq_getElem?_getD, List.getElem?_eq_getElem h]
  simp
theorem flatE_len (ls : List (List UInt8)) (h : ∀ k, k < ls.length → (ls.getD k []).length ≤ 1000000) : ∀ k, k ≤ ls.length → (flatE (ls.take k)).length ≤ totL (ls.take k) + 40 * k
  | 0, _ => by simp [flatE]
  | k + 1, hk => by
    have h1 := flatE_len ls h k (by omega)
    have h2 := h k (by omega)
    rw [flatE_succ ls k (by omega), totL_succ ls k (by omega), List.length_append, len_enc, len_clen]
    have := nd_le 7 (ls.getD k []).length (by omega)
    omega
end Go.Frm
namespace Go.Proofs.YtffblcefnckacaaDoor
open Go.RowKit Go.Lib Go.Vfs Go.Par Go.Frm Go.Shelf
set_option linter.unusedVariables false
set_option linter.unusedSimpArgs false

theorem great_any (v : Value) (ls : List (List UInt8)) (w : World) (h : RowsAt (· < w.heap.size) w v ls) (hb : ∀ l ∈ ls, l.length ≤ 140737488351232) :
    Calls Tryd.prog 20 #[v] w fun e w' => ∃ o, e = .returned (.bool o) ∧ w' = w ∧ (o = false → totL ls ≤ 200000 ∧ ls.length ≤ 200) := by
  obtain ⟨A, c, rfl, hc, hm, HA⟩ := h.open_
  have HB : Hid (∀ k, k < ls.length → (ls.getD k []).length ≤ 140737488351232) := Lib.hid fun k hk => by
    rw [List.getD_eq_getElem?_getD, List.getElem?_eq_getElem hk]; exact hb _ (List.getElem_mem hk)
  have HT := Lib.hid (totL_bound ls hb)
  clear h hb
  by_cases hl : 200 < ls.length
  · have g1 : (200 : Int) < (ls.length : Int) := by omega
    go_enter Tryd.func20, Tryd.ntmps20
    go_wp2
    go_loopw [3, 4] (fun n i wr => ∃ (k : Nat) (x : Int), k ≤ ls.length ∧ i = .int .i64 k ∧ n = .int .i64 x ∧ wr = w) (fun _ i _ => ls.length - (intOf i).toNat)
    case atStart => exact ⟨0, 0, by omega, rfl, rfl, rfl⟩
    case round =>
      obtain ⟨k, x, hk, rfl, rfl, rfl⟩ := hrel
      by_cases hlt : k < ls.length
      · obtain ⟨b, off, Ak, ck, rfl, hb2, hcell, -⟩ := HA.out wr (Below.refl _ _) k hlt
        have hbd := HB.out k hlt
        generalize ls.getD k [] = L at *
        go_wp2
        go_roundw
        case rel => exact ⟨k + 1, _, by omega, by go_num, rfl, trivial⟩
        case measure => simp [intOf]; omega
      · by_cases hx : 200000 < x
        · go_wp2
          go_ret
          first | exact ⟨true, rfl, rfl, fun h => by cases h⟩ | exact .inr ⟨rfl, rfl⟩
        · go_wp2
          go_ret
          first | exact ⟨true, rfl, rfl, fun h => by cases h⟩ | exact .inr ⟨rfl, rfl⟩
  · have g1 : ¬ (200 : Int) < (ls.length : Int) := by omega
    go_enter Tryd.func20, Tryd.ntmps20
    go_wp2
    go_loopw [3, 4] (fun n i wr => ∃ k S : Nat, k ≤ ls.length ∧ i = .int .i64 k ∧ n = .int .i64 S ∧ Hid (S = totL (ls.take k)) ∧ wr = w) (fun _ i _ => ls.length - (intOf i).toNat)
    case atStart => exact ⟨0, 0, by omega, rfl, rfl, Lib.hid rfl, rfl⟩
    case round =>
      obtain ⟨k, S, hk, rfl, rfl, HS, rfl⟩ := hrel
      have hS : S ≤ k * 140737488351233 := by rw [HS.out]; exact HT.out k hk
      by_cases hlt : k < ls.length
      · obtain ⟨b, off, Ak, ck, rfl, hb2, hcell, -⟩ := HA.out wr (Below.refl _ _) k hlt
        have hbd := HB.out k hlt
        have HX := Lib.hid (totL_succ ls k hlt)
        generalize ls.getD k [] = L at *
        go_wp2
        go_roundw
        case rel => exact ⟨k + 1, S + (1 + L.length), by omega, by go_num, by go_num, Lib.hid (by rw [HX.out, HS.out]), trivial⟩
        case measure => simp [intOf]; omega
      · have hSt : Hid (S = totL ls) := Lib.hid (by rw [HS.out, List.take_of_length_le (by omega)])
        by_cases hx : 200000 < S
        · have g2 : (200000 : Int) < (S : Int) := by omega
          go_wp2
          go_ret
          first | exact ⟨true, rfl, rfl, fun h => by cases h⟩ | exact .inr ⟨rfl, rfl⟩
        · have g2 : ¬ (200000 : Int) < (S : Int) := by omega
          go_wp2
          go_ret
          exact .inl ⟨ret_bool (decide_eq_false (by omega)), rfl, by rw [← hSt.out]; omega, by omega⟩

theorem slice_rows (A : Option Addr) (n c N : Nat) (w : World) (h : N ≤ c) : (Instr.slice 32 (.slice A n c) none (some (.int .i64 (N : Int))) none).run Tryd.prog w = .ok (.slice A N c) w := by
  have ht' : Tryd.prog.underlying 32 = some (.slice (Tryd.prog.elem 32)) := by simp [Program.elem, Tryd.underlying32]
  have he : Tryd.prog.elem 32 = 22 := by simp [Program.elem, Tryd.underlying32]
  rw [run_slice_h w 32 _ _ _ ht' .i64 _ (by omega) (by omega), he, Tryd.sizeOf22]
  simp only [Result.andThen, sliced]
  cases A <;> simp [Addr.add]
theorem rows_front {S : Nat → Prop} {w : World} {A : Option Addr} {n c : Nat} {ls : List (List UInt8)} (h : RowsAt S w (.slice A n c) ls) (k : Nat) (hk : k ≤ ls.length) : RowsAt S w (.slice A k c) (ls.take k) := by
  obtain ⟨vs, hvl, ⟨A1, c1, e, h2, h3, h4⟩, hve⟩ := h
  injection e with e1 e2 e3
  subst e1 e3
  have hln : (vs.take k).length = k := by rw [List.length_take]; omega
  refine ⟨vs.take k, by rw [List.length_take, List.length_take]; omega, ⟨A, c, by rw [hln], by rw [hln]; omega, h3, fun hp => ?_⟩, fun i hi => ?_⟩
  · rw [hln] at hp
    obtain ⟨b, off, rfl, hb, hc⟩ := h4 (by omega)
    refine ⟨b, off, rfl, hb, fun i hi => ?_⟩
    rw [hln] at hi
    rw [hc i (by omega), List.getElem?_take, if_pos hi]
  · rw [List.length_take] at hi
    have h5 := hve i (by omega)
    rw [List.getD_eq_getElem?_getD, List.getElem?_take, if_pos (by omega), ← List.getD_eq_getElem?_getD, List.getD_eq_getElem?_getD (l := ls.take k), List.getElem?_take, if_pos (by omega), ← List.getD_eq_getElem?_getD]
    exact h5
end Go.Proofs.YtffblcefnckacaaDoor
