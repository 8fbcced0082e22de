/- The reader of scheme: what it reads, in plain words; name. -/
import Derived.Test.YtbhicpjhijondaaDoorX16
namespace Go.Typ
open Go.RowKit Go.Lib Go.Vfs Go.Par
/-- a name behind its length. -/
def nmR : List UInt8 → Option (ByteArray × List UInt8)
  | [] => none
  | n :: l => if n.toNat ≤ l.length then some (⟨(l.take n.toNat).toArray⟩, l.drop n.toNat) else none
/-- so many types more. -/
def lstA (g : Nat → List UInt8 → Option (Ty × Nat × List UInt8)) : Nat → List Ty → Nat → List UInt8 → Option (List Ty × Nat × List UInt8)
  | 0, xs, q, l => some (xs, q, l)
  | n + 1, xs, q, l => match g q l with
    | none => none
    | some (T, q, l) => lstA g n (xs ++ [T]) q l
/-- a type's parts behind its kind and name. -/
def argsR (g : Nat → List UInt8 → Option (Ty × Nat × List UInt8)) (k : Int) (s : ByteArray) (q : Nat) : List UInt8 → Option (Ty × Nat × List UInt8)
  | [] => none
  | n :: l => match lstA g n.toNat [] q l with
    | none => none
    | some (ts, q, l) => some (.mk k 0 s ts, q, l)
def kindR (g : Nat → List UInt8 → Option (Ty × Nat × List UInt8)) (q x : Nat) (l : List UInt8) : Option (Ty × Nat × List UInt8) :=
  if x = 1 then (if 4 ≤ l.length then some (.mk 1 (numB (l.take 4) : Nat) ⟨#[]⟩ [], q, l.drop 4) else none)
    else if x = 2 then (match nmR l with
      | none => none
      | some (s, l) => argsR g 2 s q l)
    else if x = 3 ∨ x = 4 then argsR g (x : Int) ⟨#[]⟩ q l else none
def bodyR (g : Nat → List UInt8 → Option (Ty × Nat × List UInt8)) (q : Nat) : List UInt8 → Option (Ty × Nat × List UInt8)
  | [] => none
  | k :: l => kindR g q k.toNat l
/-- a type, behind q parts. -/
def typR : Nat → Nat → List UInt8 → Option (Ty × Nat × List UInt8)
  | 0, _, _ => none
  | f + 1, q, l => if 300 < q + 1 then none else bodyR (typR f) (q + 1) l
/-- so many exports more. -/
def exsR : Nat → List Ex → List UInt8 → Option (List Ex × List UInt8)
  | 0, xs, l => some (xs, l)
  | n + 1, xs, l => match nmR l with
    | none => none
    | some (s, l) => match typR 301 0 l with
      | none => none
      | some (T, _, l) => exsR n (xs ++ [⟨s, T⟩]) l
end Go.Typ
namespace Go.Proofs.YtbhicpjhijondaaDoor
open Go.RowKit Go.Lib Go.Vfs Go.Par Go.Typ Go.Shelf
set_option linter.unusedVariables false
set_option linter.unusedSimpArgs false

/-- a reader with these bytes left. -/
def RS (L : List UInt8) (B p : Nat) (v : Value) (l : List UInt8) (q : Nat) (bad : Bool) (W : World) : Prop := ∃ a, L.drop a = l ∧ SR L B p v a (q : Int) bad W
section
variable {L : List UInt8} {B p : Nat} {v : Value} {l : List UInt8} {q : Nat} {bad : Bool} {W W' : World}
theorem RS.keep (h : RS L B p v l q bad W) (hk : ∀ g, g ≤ p → W'.heap[g]? = W.heap[g]?) : RS L B p v l q bad W' := by
  obtain ⟨a, h1, h2⟩ := h; exact ⟨a, h1, h2.keep hk⟩
theorem RS.drewN (h : RS L B p v l q bad W) (n : Nat) : RS L B p v l q bad (W.drewN n) := h.keep fun _ _ => rfl
theorem RS.lt (h : RS L B p v l q bad W) : p < W.heap.size := by obtain ⟨a, _, h2⟩ := h; exact h2.lt
theorem RS.cells (h : RS L B p v l q bad W) : ∃ a : Nat, (L.length = a ↔ l = []) ∧ a ≤ L.length ∧ (W.cell? ⟨p, 0, none⟩ = some v ∧ W.cell? ⟨p, 1, none⟩ = some (.int .i64 a) ∧ W.cell? ⟨p, 2, none⟩ = some (.int .i64 (q : Int)) ∧ W.cell? ⟨p, 3, none⟩ = some (.bool bad)) := by
  obtain ⟨a, h1, h2⟩ := h
  refine ⟨a, ?_, h2.at_, h2.cells⟩
  rw [← h1, List.drop_eq_nil_iff]
  have := h2.at_
  omega
theorem RS.frozen (h : RS L B p v l q bad W) : (W.frozen? ⟨p, 0, none⟩ = false ∧ W.frozen? ⟨p, 1, none⟩ = false ∧ W.frozen? ⟨p, 2, none⟩ = false ∧ W.frozen? ⟨p, 3, none⟩ = false) := by
  obtain ⟨a, _, h2⟩ := h; exact h2.frozen
theorem RS.setParts (h : RS L B p v l q bad W) (q' : Nat) : RS L B p v l q' bad (W.setCell ⟨p, 2, none⟩ (.int .i64 (q' : Int))) := by
  obtain ⟨a, h1, h2⟩ := h; exact ⟨a, h1, h2.setParts q'⟩
theorem RS.setBad (h : RS L B p v l q bad W) (bad' : Bool) : RS L B p v l q bad' (W.setCell ⟨p, 3, none⟩ (.bool bad')) := by
  obtain ⟨a, h1, h2⟩ := h; exact ⟨a, h1, h2.setBad bad'⟩
end
theorem drop_room {L l : List UInt8} {a n : Nat} (h : L.drop a = l) (ha : a ≤ L.length) : (L.length < a + n ↔ l.length < n) := by
  rw [← h, List.length_drop]; omega
theorem number_any (L : List UInt8) (B p : Nat) (v : Value) (l : List UInt8) (n q : Nat) (bad : Bool) (w : World) (h : RS L B p v l q bad w) (hn : n ≤ 4) (h1 : 1 ≤ n) :
    Calls Tryd.prog 76 #[.pointer (some ⟨p, 0, none⟩), .int .i64 n] w fun e w' => ∃ (x : Nat) (l' : List UInt8) (bad' : Bool), e = .returned (.int .i64 (x : Nat)) ∧ RS L B p v l' q bad' w' ∧ Kept (· = p) w w' ∧ (bad' = false → bad = false ∧ n ≤ l.length ∧ x = numB (l.take n) ∧ l' = l.drop n) ∧ (bad' = true → (bad = true ∨ l.length < n) ∧ x = 0) := by
  obtain ⟨a, e, hs⟩ := h
  have hr := drop_room (n := n) e hs.at_
  refine (number_go L B p v a n q bad w hs hn h1).mono ?_
  rintro e' w' (⟨h1, h2, rfl, h4, h5⟩ | ⟨h1, rfl, h4, h5⟩)
  · refine ⟨_, l.drop n, false, rfl, ⟨a + n, by rw [← e, List.drop_drop], h4⟩, h5, fun _ => ⟨h1, ?_, by rw [e], rfl⟩, fun h => by cases h⟩
    rw [← e, List.length_drop]; omega
  · exact ⟨0, l, true, rfl, ⟨a, e, h4⟩, h5, (fun h => by cases h), fun _ => ⟨h1.imp_right hr.1, rfl⟩⟩
theorem take_any (L : List UInt8) (B p : Nat) (v : Value) (l : List UInt8) (n q : Nat) (bad : Bool) (w : World) (h : RS L B p v l q bad w) (hn : n ≤ 255) :
    Calls Tryd.prog 97 #[.pointer (some ⟨p, 0, none⟩), .int .i64 n] w fun e w' => ∃ (u : Value) (m l' : List UInt8) (bad' : Bool), e = .returned u ∧ Seg w' B u (byteCells m) ∧ RS L B p v l' q bad' w' ∧ Kept (· = p) w w' ∧ (bad' = false → bad = false ∧ n ≤ l.length ∧ m = l.take n ∧ l' = l.drop n) ∧ (bad' = true → (bad = true ∨ l.length < n) ∧ m = []) := by
  obtain ⟨a, e, hs⟩ := h
  have hr := drop_room (n := n) e hs.at_
  by_cases hb : bad = true ∨ L.length < a + n
  · refine (take_bad L B p v a n q bad w hs hn hb).mono ?_
    rintro e' w' ⟨rfl, h4, h5⟩
    exact ⟨_, [], l, true, rfl, Seg.nil _ _, ⟨a, e, h4⟩, h5, (fun h => by cases h), fun _ => ⟨hb.imp_right hr.1, rfl⟩⟩
  · obtain ⟨hf, hl⟩ : bad = false ∧ a + n ≤ L.length := ⟨by simpa using fun h => hb (.inl h), Nat.le_of_not_lt fun h => hb (.inr h)⟩
    subst hf
    refine (take_ok L B p v a n q w hs hn hl).mono ?_
    rintro e' w' ⟨u, rfl, hg, h4, h5⟩
    rw [e] at hg
    refine ⟨u, l.take n, l.drop n, false, rfl, hg, ⟨a + n, by rw [← e, List.drop_drop], h4⟩, h5, fun _ => ⟨rfl, ?_, rfl, rfl⟩, fun h => by cases h⟩
    rw [← e, List.length_drop]; omega

set_option maxRecDepth 20000 in
set_option maxHeartbeats 2000000 in
theorem srname_any (L : List UInt8) (B p : Nat) (v : Value) (l : List UInt8) (q : Nat) (bad : Bool) (w : World) (h : RS L B p v l q bad w) :
    Calls Tryd.prog 77 #[.pointer (some ⟨p, 0, none⟩)] w fun e w' => ∃ (s : ByteArray) (l' : List UInt8) (bad' : Bool), e = .returned (.string s) ∧ s.size ≤ 255 ∧ RS L B p v l' q bad' w' ∧ Kept (· = p) w w' ∧ (bad' = false → bad = false ∧ nmR l = some (s, l')) ∧ (bad' = true → bad = true ∨ nmR l = none) := by
  have HN := Lib.hid (number_any L B p v l 1 q bad w h (by decide) (by decide))
  clear h
  go_enter Tryd.func77, Tryd.ntmps77
  go_wp2_with fail
  refine HN.out.mono ?_
  rintro e w2 ⟨x, l1, bad1, rfl, h1, k1, ok1, no1⟩
  have hx : x ≤ 255 := by
    cases bad1 with
    | true => have := (no1 rfl).2; omega
    | false =>
      obtain ⟨_, h2, h3, _⟩ := ok1 rfl
      have := numB_lt (l.take 1)
      rw [List.length_take, Nat.min_eq_left h2, ← h3] at this
      omega
  have HT := Lib.hid (take_any L B p v l1 x q bad1 w2 h1 hx)
  have K1 := Lib.hid k1; have OK1 := Lib.hid ok1; have NO1 := Lib.hid no1
  clear h1 k1 ok1 no1 HN
  go_wp2_with fail
  refine HT.out.mono ?_
  rintro e w3 ⟨u, m, l2, bad2, rfl, hg, h2, k2, ok2, no2⟩
  have hcv := conv_segB hg
  have hml : m.length ≤ 255 := by
    cases bad2 with
    | true => rw [(no2 rfl).2]; simp
    | false => rw [(ok2 rfl).2.2.1, List.length_take]; omega
  have HE : Hid (RS L B p v l2 q bad2 w3 ∧ Kept (· = p) w w3 ∧ (bad2 = false → bad = false ∧ nmR l = some (⟨m.toArray⟩, l2)) ∧ (bad2 = true → bad = true ∨ nmR l = none)) := Lib.hid (by
    refine ⟨h2, K1.out.trans' k2, fun e => ?_, fun e => ?_⟩
    · obtain ⟨e1, h3, h4, h5⟩ := ok2 e
      obtain ⟨e2, h6, h7, h8⟩ := OK1.out e1
      refine ⟨e2, ?_⟩
      cases l with
      | nil => simp at h6
      | cons c l =>
        have hc : x = c.toNat := by rw [h7]; simp [numB]
        have h8 : l1 = l := h8
        subst h8
        rw [nmR, ← hc, if_pos h3, h4, h5]
    · obtain ⟨e1, _⟩ := no2 e
      cases bad1 with
      | true =>
        refine (NO1.out rfl).1.imp_right fun h => ?_
        have : l = [] := List.eq_nil_of_length_eq_zero (by omega)
        rw [this, nmR]
      | false =>
        obtain ⟨e2, h6, h7, h8⟩ := OK1.out rfl
        right
        cases l with
        | nil => rfl
        | cons c l =>
          have hc : x = c.toNat := by rw [h7]; simp [numB]
          have h8 : l1 = l := h8
          subst h8
          rw [nmR, ← hc, if_neg]
          rcases e1 with e1 | e1
          · cases e1
          · omega)
  have hms : ((⟨m.toArray⟩ : ByteArray)).size ≤ 255 := by show m.toArray.size ≤ 255; simpa using hml
  have HMS := Lib.hid hms
  generalize (⟨m.toArray⟩ : ByteArray) = s at *
  clear hg h2 k2 ok2 no2 hml hms
  go_wp2
  go_ret
  exact ⟨s, l2, bad2, rfl, HMS.out, HE.out.1, HE.out.2.1, HE.out.2.2.1, HE.out.2.2.2⟩
end Go.Proofs.YtbhicpjhijondaaDoor
