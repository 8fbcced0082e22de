import Derived.Test.YtdldkidccjkhgaaDoorT9
namespace Go.Proofs.YtdldkidccjkhgaaDoor
open Go.RowKit Go.Par
set_option linter.unusedVariables false

/-- the bytes of a text and its edits, as the law counts them. -/
def bulkE (n : Nat) (es : List Ed) : Nat := n + (es.map fun e => 1 + e.t.size).sum
theorem bulkE_mem {n : Nat} {es : List Ed} {e : Ed} (h : e ∈ es) : e.t.size ≤ bulkE n es ∧ n ≤ bulkE n es := by
  refine ⟨?_, Nat.le_add_right _ _⟩
  have : 1 + e.t.size ≤ (es.map fun e => 1 + e.t.size).sum := by
    induction es with
    | nil => cases h
    | cons x es ih =>
      rw [List.map_cons, List.sum_cons]
      rcases List.mem_cons.1 h with rfl | h
      · omega
      · have := ih h; omega
  unfold bulkE; omega
theorem bulkE_succ (n : Nat) (es : List Ed) (k : Nat) (e : Ed) (h : es[k]? = some e) : bulkE n (es.take (k + 1)) = bulkE n (es.take k) + (1 + e.t.size) := by
  unfold bulkE
  rw [take_snoc es k e h]
  simp; omega
theorem bulkE_bd (n : Nat) (es : List Ed) (h : ∀ e ∈ es, e.t.size ≤ 140737488351232) : bulkE n es ≤ n + 140737488351233 * es.length := by
  unfold bulkE
  induction es with
  | nil => simp
  | cons e es ih =>
    have h1 := h e (by simp)
    have h2 := ih (fun x hx => h x (by simp [hx]))
    simp at h2 ⊢
    omega

theorem cells_at {w wr : World} {B b off : Nat} {es : List Ed} (hb : b < B) (hbw : Below B w wr) (hcell : ∀ i, i < 5 * es.length → w.cell? ⟨b, off + i, none⟩ = (eds es)[i]?) {k : Nat} {e : Ed} (hek : es[k]? = some e) :
    wr.cell? ⟨b, off + k * 5, none⟩ = some (.int .i64 e.l) ∧ wr.cell? ⟨b, off + k * 5 + 1, none⟩ = some (.int .i64 e.c) ∧ wr.cell? ⟨b, off + k * 5 + 2, none⟩ = some (.int .i64 e.el) ∧ wr.cell? ⟨b, off + k * 5 + 3, none⟩ = some (.int .i64 e.ec) ∧ wr.cell? ⟨b, off + k * 5 + 4, none⟩ = some (.string e.t) := by
  have hlt := (List.getElem?_eq_some_iff.1 hek).1
  have hce : ∀ j, j < 5 → wr.cell? ⟨b, off + (k * 5 + j), none⟩ = e.cells[j]? := fun j hj => by
    rw [hbw.cell (p := ⟨b, off + (k * 5 + j), none⟩) hb, hcell _ (by omega)]
    exact eds_getElem es k j e hek hj
  exact ⟨by simpa [Ed.cells] using hce 0 (by omega), by simpa [Ed.cells, Nat.add_assoc] using hce 1 (by omega), by simpa [Ed.cells, Nat.add_assoc] using hce 2 (by omega), by simpa [Ed.cells, Nat.add_assoc] using hce 3 (by omega), by simpa [Ed.cells, Nat.add_assoc] using hce 4 (by omega)⟩

set_option maxRecDepth 20000 in
set_option maxHeartbeats 1000000 in
theorem great_few (s : ByteArray) (hs : s.size ≤ 140737488351232) (v : Value) (es : List Ed) (he : ∀ e ∈ es, e.t.size ≤ 140737488351232) (hn : es.length ≤ 50) (B : Nat) (w : World) (hsg : SegE w B v es) :
    Calls Tryd.prog 40 #[.string s, v] w fun e w' => e = .returned (.bool (decide (100000 < bulkE s.size es))) ∧ w' = w := by
  obtain ⟨A, c, rfl, hc, hcm, hat⟩ := hsg
  have hbk : ∀ k, bulkE s.size (es.take k) ≤ 140737488351232 + 140737488351233 * 50 := fun k => by
    have h1 := bulkE_bd s.size (es.take k) (fun e h => he e (List.mem_of_mem_take h))
    have h2 : (es.take k).length ≤ 50 := by simp; omega
    have h3 := Nat.mul_le_mul_left 140737488351233 h2
    omega
  have HBK := Lib.hid hbk; clear hbk
  go_enter Tryd.func40, Tryd.ntmps40
  go_wp2
  go_loopw [5, 6] (fun n i wr => ∃ k m : Nat, k ≤ es.length ∧ i = .int .i64 k ∧ n = .int .i64 m ∧ Hid (m = bulkE s.size (es.take k)) ∧ w = wr) (fun _ i _ => es.length - (intOf i).toNat)
  case atStart => exact ⟨0, s.size, by omega, rfl, rfl, Lib.hid (by simp [bulkE]), rfl⟩
  case round =>
    obtain ⟨k, m, hk, rfl, rfl, HM, rfl⟩ := hrel
    by_cases hlt : k < es.length
    · obtain ⟨b, off, rfl, hb, hcell⟩ := hat (by omega)
      obtain ⟨e, hek⟩ : ∃ e, es[k]? = some e := ⟨_, List.getElem?_eq_getElem hlt⟩
      obtain ⟨c0, c1, c2, c3, c4⟩ := cells_at hb (Below.refl B w) hcell hek
      have hes := he e (List.mem_of_getElem? hek)
      have hbs := bulkE_succ s.size es k e hek
      have hb1 := HBK.out k
      rw [← HM.out] at hbs hb1
      have HBS := Lib.hid hbs; clear hbs hat hcell hek c0 c1 c2 c3
      go_wp2
      go_roundw
      case rel => exact ⟨k + 1, m + (1 + e.t.size), by omega, by go_num, by go_num, Lib.hid HBS.out.symm, trivial⟩
      case measure => simp [intOf]; omega
    · have hkl : k = es.length := by omega
      have hm : m = bulkE s.size es := by rw [HM.out, hkl, take_all]
      have HMM := Lib.hid hm; clear hm hat
      by_cases hbig : 100000 < m
      · have hbig' : decide ((100000 : Int) < (m : Int)) = true := decide_eq_true (by omega)
        go_wp2
        go_ret
        exact ⟨congrArg (fun x => Ending.returned (.bool x)) (by rw [← HMM.out]; exact (decide_eq_true hbig).symm), rfl⟩
      · have hbig' : decide ((100000 : Int) < (m : Int)) = false := decide_eq_false (by omega)
        have hn' : ¬ (50 : Int) < (es.length : Int) := by omega
        go_wp2
        go_ret
        exact ⟨congrArg (fun x => Ending.returned (.bool x)) (by rw [← HMM.out]; exact (decide_eq_false hbig).symm), rfl⟩

set_option maxRecDepth 20000 in
set_option maxHeartbeats 1000000 in
theorem great_many (s : ByteArray) (v : Value) (es : List Ed) (hn : 50 < es.length) (B : Nat) (w : World) (hsg : SegE w B v es) :
    Calls Tryd.prog 40 #[.string s, v] w fun e w' => e = .returned (.bool true) ∧ w' = w := by
  obtain ⟨A, c, rfl, hc, hcm, hat⟩ := hsg
  go_enter Tryd.func40, Tryd.ntmps40
  go_wp2
  go_loopw [5, 6] (fun n i wr => ∃ (k : Nat) (z : Int), k ≤ es.length ∧ i = .int .i64 k ∧ n = .int .i64 z ∧ w = wr) (fun _ i _ => es.length - (intOf i).toNat)
  case atStart => exact ⟨0, s.size, by omega, rfl, rfl, rfl⟩
  case round =>
    obtain ⟨k, z, hk, rfl, rfl, rfl⟩ := hrel
    by_cases hlt : k < es.length
    · obtain ⟨b, off, rfl, hb, hcell⟩ := hat (by omega)
      obtain ⟨e, hek⟩ : ∃ e, es[k]? = some e := ⟨_, List.getElem?_eq_getElem hlt⟩
      obtain ⟨c0, c1, c2, c3, c4⟩ := cells_at hb (Below.refl B w) hcell hek
      clear hat hcell hek c0 c1 c2 c3
      go_wp2
      go_roundw
      case rel => exact ⟨k + 1, _, by omega, by go_num, rfl, trivial⟩
      case measure => simp [intOf]; omega
    · have hn' : (50 : Int) < (es.length : Int) := by omega
      clear hat
      by_cases hbig : (100000 : Int) < z
      · have hbig' : decide ((100000 : Int) < z) = true := decide_eq_true hbig
        go_wp2
        go_ret
        exact ⟨rfl, rfl⟩
      · have hbig' : decide ((100000 : Int) < z) = false := decide_eq_false hbig
        go_wp2
        go_ret
        exact ⟨rfl, rfl⟩
end Go.Proofs.YtdldkidccjkhgaaDoor
