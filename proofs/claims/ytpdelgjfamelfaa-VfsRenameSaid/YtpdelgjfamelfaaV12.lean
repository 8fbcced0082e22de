import Derived.Test.YtpdelgjfamelfaaV11
import Derived.Lib.SliceRun
namespace Go.Proofs.Ytpdelgjfamelfaa
open Go.RowKit Go.Lib Go.Vfs Go.Par
set_option linter.unusedVariables false

set_option maxRecDepth 20000 in
set_option maxHeartbeats 400000 in
theorem clone_nil (w : World) : Calls Try.prog 52 #[.slice none 0 0] w fun e w' => e = .returned (.slice none 0 0) ∧ w = w' := by
  have hnil := fun (W : World) => Lib.run_eql_slice_nil (P := Try.prog) W 22 5 none 0 0 0 0 Try.underlying22
  go_enter Try.func52, Try.ntmps52
  go_wp2
  go_ret
  exact ⟨rfl, rfl⟩
set_option maxRecDepth 20000 in
set_option maxHeartbeats 400000 in
theorem clone_some (a : Addr) (n c : Nat) (l : List UInt8) (B : Nat) (w : World) (hsg : Seg w B (.slice (some a) n c) (byteCells l)) (hB : B ≤ w.heap.size) (hl : l.length ≤ 2147483648) :
    Calls Try.prog 52 #[.slice (some a) n c] w fun e w' => ∃ u, e = .returned u ∧ Par.Own w' w.heap.size 5 u (byteCells l) ∧ Below w.heap.size w w' := by
  have hown := Par.Own.new w w.heap.size 5 #[] [] rfl (Nat.le_refl _) (by simp)
  have hb0 : Below w.heap.size w (w.alloc (.cells #[] 5)) := (Below.refl _ w).alloc (Nat.le_refl _) _
  have hsg1 := hsg.below (hb0.mono hB)
  clear hsg
  have hnil := fun (W : World) => Lib.run_eql_slice_nil (P := Try.prog) W 22 5 (some a) n c 0 0 Try.underlying22
  go_enter Try.func52, Try.ntmps52
  go_wp2_with (at_builtin; refine wpList_app _ rfl _ _ _ rfl w.heap.size 5 _ byteE _ _ rfl hown _ _ _ rfl hsg1 (one_bytes _) ?c1 ?c2 ?_)
  case c1 => rw [byteCells_length]; simp only [List.length_nil]; omega
  case c2 => first | omega | (simp; done) | (simp; omega)
  intro v3 w3 hown4 hg3 hat3
  go_wp2
  go_ret
  exact ⟨_, rfl, by simpa using hown4, below_app hb0 hown hg3 (by simp)⟩
/-- of a row of bytes. -/
theorem clone_any (v : Value) (l : List UInt8) (b : Nat) (w : World) (h : w.ownsRow b 5 1 v l.length (byteCells l)) (hl : l.length ≤ 2147483648) :
    Calls Try.prog 52 #[v] w fun e w' => ∃ u, e = .returned u ∧ Par.Own w' w.heap.size 5 u (byteCells l) ∧ Below w.heap.size w w' := by
  have hown : Par.Own w b 5 v (byteCells l) := by unfold Par.Own; rw [byteCells_length]; exact h
  have hseg := hown.seg
  rcases h.2 with ⟨rfl, h0⟩ | ⟨g, cap, cur, rfl, _⟩
  · refine (clone_nil w).mono ?_
    rintro e w' ⟨rfl, rfl⟩
    have : l = [] := List.eq_nil_of_length_eq_zero h0
    subst this
    exact ⟨_, rfl, Par.Own.nil _ _ _, Below.refl _ _⟩
  · exact clone_some _ _ _ l _ w hseg (Nat.le_refl _) hl

/-- what Read answers. -/
def ReadPost (w : World) (r : Except Int File) (e : Ending) (w' : World) : Prop :=
  Below w.heap.size w w' ∧ match r with
    | .error n => e = .returned (.tuple #[.slice none 0 0, .int .i64 n])
    | .ok f => ∃ u, e = .returned (.tuple #[u, .int .i64 0]) ∧ Par.Own w' w.heap.size 5 u (byteCells f.data)

set_option maxRecDepth 20000 in
set_option maxHeartbeats 1000000 in
theorem read_any (w : World) (p : Nat) (st : St) (F : Nat → Prop) (h : Fsy w p st F) (s : ByteArray) (hs : s.size ≤ 9223372036854775807) (hm : ∀ f ∈ st.files, f.data.length ≤ 2147483648) :
    Calls Try.prog 19 #[.pointer (some ⟨p, 0, none⟩), .string s] w (ReadPost w (stFind st s.data.toList)) := by
  obtain ⟨xs, mb, hfs, hat, rfl⟩ := h
  have HAT := Lib.hid hat; clear hat
  have HFS := Lib.hid hfs; clear hfs
  have HM := Lib.hid hm; clear hm
  obtain ⟨r, hr⟩ : ∃ r, r = stFind st s.data.toList := ⟨_, rfl⟩
  rw [← hr]
  have HR := Lib.hid hr; clear hr
  go_enter Try.func19, Try.ntmps19
  go_wp2_with fail
  refine (find_any s hs w p st.power xs mb HAT.out).mono ?_
  intro e w1 hpost
  obtain rfl := hpost.1
  rcases find_st HFS.out s.data.toList hpost with ⟨n, he, hn0, rfl⟩ | ⟨x, he, hx, hkx, hnm, hff, rfl⟩
  · have HE := Lib.hid (HR.out.trans he)
    have hq : (n != 0) = true := by simpa using hn0
    clear hpost he hn0
    go_wp2
    go_ret2
    rw [HE.out]
    exact ⟨Below.refl _ _, rfl⟩
  · have HE := Lib.hid (HR.out.trans he)
    obtain ⟨A, c, hv⟩ := (HAT.out.files x hx).form
    have hh := (HAT.out.files x hx).head
    have hrow := (HAT.out.files x hx).row
    rw [hv] at hh hrow
    have c0 : w.cell? ⟨x.q, 0, none⟩ = some (.slice A x.f.data.length c) := by simp [World.cell?, hh]
    have hxl : x.f.data.length ≤ 2147483648 := HM.out x.f (by rw [HFS.out]; exact List.mem_map_of_mem hx)
    have HRO := Lib.hid hrow
    clear hpost he hkx hnm hff hv hh hrow
    go_wp2_with fail
    refine (clone_any _ x.f.data 0 w HRO.out hxl).mono ?_
    rintro e w2 ⟨u, rfl, hown, hb⟩
    have HO := Lib.hid hown; clear hown
    go_wp2
    go_ret2
    rw [HE.out]
    exact ⟨hb, u, rfl, HO.out⟩
end Go.Proofs.Ytpdelgjfamelfaa
