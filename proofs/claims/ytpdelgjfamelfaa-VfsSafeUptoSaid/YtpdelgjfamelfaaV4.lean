import Derived.Test.YtpdelgjfamelfaaV3
namespace Go.Proofs.Ytpdelgjfamelfaa
open Go.RowKit Go.Lib Go.Vfs Go.Par
set_option linter.unusedVariables false

/-- v is a slice of slices of bytes. -/
def RowsAt (S : Nat → Prop) (w : World) (v : Value) (ls : List (List UInt8)) : Prop :=
  ∃ vs : List Value, vs.length = ls.length ∧ SegS S w v vs ∧ ∀ i, i < ls.length → SegS S w (vs.getD i (.bool false)) (byteCells (ls.getD i []))
theorem RowsAt.keep {S S' : Nat → Prop} {w w' : World} {v : Value} {ls : List (List UInt8)} (h : RowsAt S w v ls) (hk : ∀ b, S b → S' b ∧ w'.heap[b]? = w.heap[b]?) : RowsAt S' w' v ls := by
  obtain ⟨vs, h1, h2, h3⟩ := h
  exact ⟨vs, h1, h2.keep hk, fun i hi => (h3 i hi).keep hk⟩
theorem RowsAt.kept {w w' : World} {F F' : Nat → Prop} {v : Value} {ls : List (List UInt8)} (h : RowsAt (Out w F) w v ls) (hk : Kept F w w') (hg : Grows w F F') : RowsAt (Out w' F') w' v ls := by
  obtain ⟨vs, h1, h2, h3⟩ := h
  exact ⟨vs, h1, h2.kept hk hg, fun i hi => (h3 i hi).kept hk hg⟩
theorem RowsAt.below {w w' : World} {F : Nat → Prop} {v : Value} {ls : List (List UInt8)} (h : RowsAt (Out w F) w v ls) (hb : Below w.heap.size w w') : RowsAt (Out w' F) w' v ls := by
  obtain ⟨vs, h1, h2, h3⟩ := h
  exact ⟨vs, h1, h2.below hb, fun i hi => (h3 i hi).below hb⟩

theorem byteE : Elem Try.prog 22 5 (.int .u8 0) := elem_of (b := 1) Try.underlying22 (by kernel_rfl) (by decide) rfl

theorem FileAt.own {w : World} {x : FileR} (h : FileAt w x) : Par.Own w 0 5 x.v (byteCells x.f.data) := by
  unfold Par.Own
  rw [byteCells_length]
  exact h.row
theorem byteCells_append (a b : List UInt8) : byteCells (a ++ b) = byteCells a ++ byteCells b := by simp [byteCells]

/-- x with other bytes. -/
def FileR.set (x : FileR) (data : List UInt8) (v : Value) : FileR := ⟨⟨x.f.name, data, x.f.safe⟩, x.q, v⟩

theorem flat_succ (ls : List (List UInt8)) (k : Nat) (hk : k < ls.length) : (ls.take (k + 1)).flatten = (ls.take k).flatten ++ ls.getD k [] := by
  rw [List.take_succ_eq_append_getElem hk, List.flatten_append, List.getD_eq_getElem?_getD, List.getElem?_eq_getElem hk]
  simp
theorem flat_le (ls : List (List UInt8)) (k : Nat) (hk : k < ls.length) : ((ls.take k).flatten).length + (ls.getD k []).length ≤ ls.flatten.length := by
  have h1 := congrArg List.length (flat_succ ls k hk)
  rw [List.length_append] at h1
  have h2 := congrArg (fun l : List (List UInt8) => l.flatten.length) (List.take_append_drop (k + 1) ls)
  simp only [List.flatten_append, List.length_append] at h2
  omega

/-- what an append and the store of its slice leave of a file. -/
theorem add_step {x : FileR} {wr w3 : World} {D L : List UInt8} {vk v3 : Value} (hf : FileAt wr (x.set D vk)) (hn : vk.ownBlock ≠ some x.q) (hown : Par.Own w3 0 5 v3 (byteCells D ++ byteCells L)) (hg : wr.grownBy w3 vk.ownBlock)
    (hat : v3.ownBlock = vk.ownBlock ∨ v3.ownBlock = some wr.heap.size) : FileAt (w3.setCell ⟨x.q, 0, none⟩ v3) (x.set (D ++ L) v3) ∧ v3.ownBlock ≠ some x.q := by
  have hql : x.q < wr.heap.size := lt_of_block hf.head
  have hh3 : w3.heap[x.q]? = some (.cells #[vk, .int .i64 x.f.safe] 89 (0, 0)) := by
    rw [hg.block x.q hql (fun e => hn e.symm)]
    exact hf.head
  have hn3 : v3.ownBlock ≠ some x.q := by
    rcases hat with h | h
    · rw [h]; exact hn
    · rw [h]; simp; omega
  refine ⟨⟨two_setCell0 hh3, ?_, ?_⟩, hn3⟩
  · unfold Par.Own at hown
    rw [← byteCells_append, byteCells_length] at hown
    exact ownsRow_setCell_other (a := ⟨x.q, 0, none⟩) hown hn3 _
  · have := hf.safe
    simp only [FileR.set, List.length_append] at this ⊢
    omega

set_option maxRecDepth 20000 in
set_option maxHeartbeats 1000000 in
theorem add_any (x : FileR) (w : World) (hf : FileAt w x) (hnd : x.v.ownBlock ≠ some x.q) (v : Value) (ls : List (List UInt8)) (hp : RowsAt (Out w (· ∈ blocksR x)) w v ls) (hlen : x.f.data.length + ls.flatten.length ≤ 2147483648) :
    Calls Try.prog 50 #[.pointer (some ⟨x.q, 0, none⟩), v] w fun e w' => e = .returned (.tuple #[]) ∧ ∃ v', FileAt w' (x.set (x.f.data ++ ls.flatten) v') ∧ v'.ownBlock ≠ some x.q ∧ Kept (· ∈ blocksR x) w w' ∧ (∀ g, v'.ownBlock = some g → x.v.ownBlock = some g ∨ w.heap.size ≤ g) := by
  obtain ⟨vs, hvl, hsv, hrows⟩ := hp
  obtain ⟨A, c, rfl, hc, hm, hat⟩ := hsv
  have hm' : c ≤ 9223372036854775807 := by simpa [maxLen] using hm
  have hql : x.q < w.heap.size := lt_of_block hf.head
  have HAT := Lib.hid hat; clear hat
  have HR := Lib.hid hrows; clear hrows
  have HVL := Lib.hid hvl; clear hvl
  have HF := Lib.hid hf; clear hf
  have HND := Lib.hid hnd; clear hnd
  go_enter Try.func50, Try.ntmps50
  go_wp2
  go_loopw [8] (fun i wr => ∃ (k : Nat) (vk : Value), k ≤ vs.length ∧ i = .int .i64 k ∧ Hid (FileAt wr (x.set (x.f.data ++ (ls.take k).flatten) vk)) ∧ Hid (vk.ownBlock ≠ some x.q) ∧ Kept (· ∈ blocksR x) w wr ∧ Hid (∀ g, vk.ownBlock = some g → x.v.ownBlock = some g ∨ w.heap.size ≤ g)) (fun i _ => vs.length - (intOf i).toNat)
  case atStart => exact ⟨0, x.v, by omega, rfl, Lib.hid (by simpa [FileR.set] using HF.out), HND, Kept.refl _ _, Lib.hid (fun g h => .inl h)⟩
  case round =>
    obtain ⟨k, vk, hk, rfl, HFk, HNk, hkept, HGk⟩ := hrel
    have hzk := hkept.size
    by_cases hlt : k < vs.length
    · obtain ⟨b, off, rfl, hb, hcell⟩ := HAT.out (by omega)
      have hck : wr.cell? ⟨b, off + k, none⟩ = some (vs.getD k (.bool false)) := by
        rw [hkept.cell (p := ⟨b, off + k, none⟩) hb.1 hb.2, hcell k hlt, List.getD_eq_getElem?_getD, List.getElem?_eq_getElem hlt]
        rfl
      have hsg := HR.out k (by rw [← HVL.out]; exact hlt)
      have hsk : SegS (Out wr (· ∈ blocksR x)) wr (vs.getD k (.bool false)) (byteCells (ls.getD k [])) := hsg.kept hkept (fun _ h => .inl h)
      have hseg := hsk.out
      clear hsg hsk hcell
      generalize vs.getD k (.bool false) = u at *
      have hq0 : wr.cell? ⟨x.q, 0, none⟩ = some vk := by have := HFk.out.head; simp only [FileR.set] at this; simp [World.cell?, this]
      have hown := HFk.out.own
      have hlk := flat_le ls k (by rw [← HVL.out]; exact hlt)
      have HFL := Lib.hid (flat_succ ls k (by rw [← HVL.out]; exact hlt))
      generalize ls.getD k [] = L at *
      go_wp2_with (at_builtin; refine wpList_app _ rfl _ _ _ rfl 0 5 _ byteE _ _ rfl hown _ _ _ rfl hseg (one_bytes _) ?c1 ?c2 ?_)
      case c1 => rw [byteCells_length, byteCells_length]; simp only [FileR.set, List.length_append]; omega
      case c2 => first | omega | simp
      intro v3 w3 hown4 hg3 hat3
      have hh3 : w3.heap[x.q]? = some (.cells #[vk, .int .i64 x.f.safe] 89 (0, 0)) := by
        rw [hg3.block x.q (by omega) (fun e => HNk.out e.symm)]
        exact HFk.out.head
      have hq3 : w3.cell? ⟨x.q, 0, none⟩ = some vk := by simp [World.cell?, hh3]
      have hf3 : w3.frozen? ⟨x.q, 0, none⟩ = false := by simp [World.frozen?, hh3]
      obtain ⟨hF4, hN4⟩ := add_step HFk.out HNk.out hown4 hg3 hat3
      rw [List.append_assoc, ← HFL.out] at hF4
      have hK4 : Kept (· ∈ blocksR x) w (w3.setCell ⟨x.q, 0, none⟩ v3) := (hkept.grown hg3 (fun g e => by
        rcases HGk.out g e with h | h
        · left; simp [blocksR, h]
        · exact .inr h)).setCell (p := ⟨x.q, 0, none⟩) (.inl (by simp [blocksR])) _
      have HG4 : Hid (∀ g, v3.ownBlock = some g → x.v.ownBlock = some g ∨ w.heap.size ≤ g) := Lib.hid (fun g e => by
        rcases hat3 with h | h
        · exact HGk.out g (by rw [← h]; exact e)
        · rw [h] at e; cases e; right; exact hzk)
      have HF4 := Lib.hid hF4; clear hF4
      have HN4 := Lib.hid hN4; clear hN4
      clear hown4 hg3 hat3 HFL
      have hv3 : ∃ A3 n3 c3, v3 = .slice A3 n3 c3 := by
        have := HF4.out.own.form
        simp only [FileR.set] at this
        obtain ⟨A3, c3, h⟩ := this
        exact ⟨A3, _, c3, h⟩
      obtain ⟨A3, n3, c3, rfl⟩ := hv3
      go_wp2
      go_roundw
      case rel => exact ⟨k + 1, _, by omega, by go_num, HF4, HN4, hK4, HG4⟩
      case measure => simp [intOf]; omega
    · have hkl : k = vs.length := by omega
      have hF := HFk.out
      rw [hkl, HVL.out, List.take_length] at hF
      go_wp2
      go_end0
      exact ⟨rfl, vk, hF, HNk.out, hkept, HGk.out⟩
end Go.Proofs.Ytpdelgjfamelfaa
