import Derived.Test.YtpdelgjfamelfaaV7
namespace Go.Proofs.Ytpdelgjfamelfaa
open Go.RowKit Go.Lib Go.Vfs Go.Par
set_option linter.unusedVariables false

def stFind (st : St) (s : List UInt8) : Except Int File := if nameB s then (match findL File.name s st.files with | some f => .ok f | none => .error 11) else .error 10
def stSync (st : St) (s : List UInt8) : St × Int := match stFind st s with
  | .error e => (st, e)
  | .ok f => doSt st (withL File.name ⟨f.name, f.data, f.data.length⟩ st.files)
def stRemove (st : St) (s : List UInt8) : St × Int := match stFind st s with
  | .error e => (st, e)
  | .ok f => doSt st (dropL File.name s st.files)
def stTruncate (st : St) (s : List UInt8) (n : Int) : St × Int := match stFind st s with
  | .error e => (st, e)
  | .ok f => if n < 0 ∨ (f.data.length : Int) < n then (st, 12) else doSt st (withL File.name ⟨f.name, f.data.take n.toNat, min f.safe n.toNat⟩ st.files)
def stRename (st : St) (a b : List UInt8) : St × Int := if nameB a && nameB b then (match stFind st a with
  | .error e => (st, e)
  | .ok f => doSt st (withL File.name ⟨b, f.data, f.safe⟩ (dropL File.name a st.files))) else (st, 10)

/-- what find tells of a file system that reads as st. -/
theorem find_st {st : St} {xs : List FileR} (hfs : st.files = xs.map (·.f)) (s : List UInt8) {w w' : World} {e : Ending} (h : FindPost w xs s e w') :
    (∃ n, stFind st s = .error n ∧ n ≠ 0 ∧ e = .returned (.tuple #[.pointer none, .int .i64 n])) ∨ (∃ x, stFind st s = .ok x.f ∧ x ∈ xs ∧ keyR x = s ∧ nameB s = true ∧ findL keyR s xs = some x ∧ e = .returned (.tuple #[.pointer (some ⟨x.q, 0, none⟩), .int .i64 0])) := by
  obtain ⟨_, h⟩ := h
  unfold stFind
  cases hn : nameB s with
  | false =>
    rw [hn] at h
    exact .inl ⟨10, by simp, by decide, h⟩
  | true =>
    rw [hn] at h
    rw [hfs, map_findL (key := keyR) (key' := File.name) FileR.f (fun _ => rfl)]
    cases hf : findL keyR s xs with
    | none => rw [hf] at h; exact .inl ⟨11, by simp, by decide, h⟩
    | some x =>
      rw [hf] at h
      obtain ⟨h1, h2⟩ := findL_some hf
      exact .inr ⟨x, by simp, h1, h2, rfl, rfl, h⟩

/- Sync. -/
theorem sync1_do {w : World} {p : Nat} {pow : Int} {xs : List FileR} {mb : Nat} (h : FSAt w p pow xs mb) {x : FileR} (hx : x ∈ xs) (n : Nat) :
    DoPost w p pow xs mb (withL File.name ⟨x.f.name, x.f.data, x.f.data.length⟩ (xs.map (·.f))) ((w.drewN n).setCell ⟨x.q, 1, none⟩ (.int .i64 x.f.data.length)) := by
  have hf := h.files x hx
  have hpf := h.pf x hx
  have hk : Kept (· ∈ blocksR x) w ((w.drewN n).setCell ⟨x.q, 1, none⟩ (.int .i64 x.f.data.length)) := ((Kept.refl _ w).drewN n).setCell (p := ⟨x.q, 1, none⟩) (.inl (by simp [blocksR])) _
  obtain ⟨h1, h2⟩ := h.repl (x' := ⟨⟨x.f.name, x.f.data, x.f.data.length⟩, x.q, x.v⟩) hx rfl rfl (w' := (w.drewN n).setCell ⟨x.q, 1, none⟩ (.int .i64 x.f.data.length))
    ⟨two_setCell (w := w.drewN n) hf.head, ownsRow_setCell_other (w := w.drewN n) (a := ⟨x.q, 1, none⟩) hf.row hpf.2.2 _, Nat.le_refl _⟩ hpf.2.2 hk (fun g e => .inl e)
  exact ⟨_, by rw [map_withL (key := keyR) (key' := File.name) FileR.f (fun _ => rfl)], h1, hk.mono (fun k _ hb => .inr (.inr ⟨x, hx, hb⟩)), h2⟩

theorem FileAt.form {w : World} {x : FileR} (h : FileAt w x) : ∃ A c, x.v = .slice A x.f.data.length c := by
  have := h.own.form
  rwa [byteCells_length] at this

set_option maxHeartbeats 1000000 in
theorem sync1_any (w : World) (p : Nat) (pow : Int) (xs : List FileR) (mb : Nat) (h : FSAt w p pow xs mb) (x : FileR) (hx : x ∈ xs) (bx : Nat) (hbx : w.cell? ⟨bx, 0, none⟩ = some (.pointer (some ⟨x.q, 0, none⟩))) :
    Calls Try.prog 64 #[.pointer (some ⟨bx, 0, none⟩)] w fun e w' => e = .returned (.tuple #[]) ∧ DoPost w p pow xs mb (withL File.name ⟨x.f.name, x.f.data, x.f.data.length⟩ (xs.map (·.f))) w' := by
  obtain ⟨A, c, hv⟩ := (h.files x hx).form
  have hh := (h.files x hx).head
  rw [hv] at hh
  have c0 : w.cell? ⟨x.q, 0, none⟩ = some (.slice A x.f.data.length c) := by simp [World.cell?, hh]
  have c1 : w.cell? ⟨x.q, 1, none⟩ = some (.int .i64 x.f.safe) := by simp [World.cell?, hh]
  have f1 : w.frozen? ⟨x.q, 1, none⟩ = false := by simp [World.frozen?, hh]
  have HD := Lib.hid (fun n => sync1_do h hx n)
  clear hv hh h
  go_enter Try.func64, Try.ntmps64
  go_wp2_with fail
  go_region
  go_end0
  exact ⟨rfl, HD.out _⟩
end Go.Proofs.Ytpdelgjfamelfaa
