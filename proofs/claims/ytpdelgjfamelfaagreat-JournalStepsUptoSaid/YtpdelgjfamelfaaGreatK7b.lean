/- What one call does to both, in the law's own spelling. -/
import Derived.Test.YtpdelgjfamelfaaGreatK7
namespace Go.Proofs.YtpdelgjfamelfaaGreat
open Go.RowKit Go.Lib Go.Vfs Go.Par Go.Shelf
set_option linter.unusedVariables false
set_option linter.unusedSimpArgs false

section
variable {W w w' : World} {p : Nat} {st : St} {F : Nat → Prop} {bm : Nat} {sm : St} {v : Value} {bn bd : Nat} {va vb : Value} {base log : List UInt8}
theorem Duo.copy (h : Duo W w p st F bm sm v bn bd va vb base log) {k : Nat} (hk : k < 3) {A1 : Option Addr} {c1 : Nat} {L : List UInt8} (hs0 : Seg W W.heap.size (.slice A1 L.length c1) (byteCells L)) (hl : L.length ≤ 1000000) :
    Calls Tryz.prog 8 #[.slice A1 L.length c1] w fun e w' => ∃ A c, e = .returned (.slice A L.length c) ∧ Hid (SegS (Out w' F) w' (.slice A L.length c) (byteCells L)) ∧ Hid (Duo W w' p st F bm sm v bn bd va vb base log) ∧ w'.cell? ⟨bn, k, none⟩ = some (.string ⟨(nmK k).toArray⟩) ∧ ¬ bn = w'.heap.size := by
  have hs := hs0.below h.pair.held.below
  refine (copyBytes_any _ _ W.heap.size w hs h.pair.sz hl).mono ?_
  rintro e w' ⟨u, rfl, hu, hb⟩
  obtain ⟨A, c, rfl⟩ := Own.formB hu
  have h' := h.go hb
  exact ⟨A, c, rfl, Lib.hid ((own_seg hu).keep fun j hj => ⟨⟨(hu.lt j hj).2, fun hf => by have := h.pair.held.fs.lt j hf; have := (hu.lt j hj).1; omega⟩, rfl⟩), Lib.hid h', (h'.cells hk).1, by have := h'.nlt.1; omega⟩
theorem Duo.append (h : Duo W w p st F bm sm v bn bd va vb base log) (k : Nat) {A : Option Addr} {c : Nat} {L : List UInt8} (hs : SegS (Out w F) w (.slice A L.length c) (byteCells L)) (hm : Modest st L.length) :
    Calls Tryz.prog 7 #[.pointer (some ⟨p, 0, none⟩), .string ⟨(nmK k).toArray⟩, .slice (some ⟨w.heap.size, 0, none⟩) 1 1] (w.alloc (.cells #[.slice A L.length c] 22)) fun e w' => ∃ F' er, e = .returned (.int .i64 er) ∧ Hid (Duo W w' p (stAppend st (nmK k) L).1 F' bm sm v bn bd va vb base log) := by
  have h' := h.go (box_below w (.cells #[.slice A L.length c] 22))
  have hr := RowsAt.new1 (fun j hj => h.pair.held.fs.lt j hj) hs w.heap.size rfl
  refine (append_any _ p st F h'.pair.held.fs ⟨(nmK k).toArray⟩ (by have := nmK_len k; simp [ByteArray.size]; omega) _ [L] hr (by simpa using hm)).mono ?_
  rintro e w' ⟨F', rfl, g1, g2, g3⟩
  have hfl : [L].flatten = L := by simp
  simp only [hfl] at g1 ⊢
  exact ⟨F', _, rfl, Lib.hid (h'.op g1 g2 g3)⟩
theorem Duo.sync (h : Duo W w p st F bm sm v bn bd va vb base log) (k : Nat) (hp : st.power ≤ 9223372036854775807) :
    Calls Tryz.prog 9 #[.pointer (some ⟨p, 0, none⟩), .string ⟨(nmK k).toArray⟩] w fun e w' => ∃ F' er, e = .returned (.int .i64 er) ∧ Hid (Duo W w' p (stSync st (nmK k)).1 F' bm sm v bn bd va vb base log) := by
  refine (sync_any w p st F h.pair.held.fs ⟨(nmK k).toArray⟩ (by have := nmK_len k; simp [ByteArray.size]; omega) hp).mono ?_
  rintro e w' ⟨F', rfl, g1, g2, g3⟩
  exact ⟨F', _, rfl, Lib.hid (h.op g1 g2 g3)⟩
/-- what a call of the reference leaves beside. -/
def DuoR (W : World) (p : Nat) (st : St) (F : Nat → Prop) (bm : Nat) (sm : St) (v : Value) (bn bd : Nat) (va vb : Value) (base log : List UInt8) (r : St) (w' : World) (A : Option Addr) (n c : Nat) : Prop :=
  Duo W w' p st F bm sm v bn bd va vb base log ∧ RefS (PS W w' F bm) w' (.slice A n c) r.files
theorem DuoR.store {r : St} {A : Option Addr} {n c : Nat} (h : DuoR W p st F bm sm v bn bd va vb base log r w A n c) : Duo W ((w.setCell ⟨bm, 0, none⟩ (.int .i64 r.power)).setCell ⟨bm, 1, none⟩ (.slice A n c)) p st F bm r (.slice A n c) bn bd va vb base log := h.1.store h.2
theorem Duo.rappend (h : Duo W w p st F bm sm v bn bd va vb base log) (k : Nat) {A1 : Option Addr} {c1 : Nat} {L : List UInt8} (hs0 : Seg W W.heap.size (.slice A1 L.length c1) (byteCells L)) (hl : L.length ≤ 1000000) (hp : sm.power ≤ 9223372036854775807) (hf : sm.files.length ≤ 900000) (hd : ∀ f ∈ sm.files, f.data.length ≤ 1000000) :
    Calls Tryz.prog 10 #[.agg #[.int .i64 sm.power, v], .string ⟨(nmK k).toArray⟩, .slice (some ⟨w.heap.size, 0, none⟩) 1 1] (w.alloc (.cells #[.slice A1 L.length c1] 22)) fun e w' => ∃ A n c er, e = .returned (.tuple #[.agg #[.int .i64 (stAppend sm (nmK k) L).1.power, .slice A n c], .int .i64 er]) ∧ Hid (DuoR W p st F bm sm v bn bd va vb base log (stAppend sm (nmK k) L).1 w' A n c) ∧ (w'.cell? ⟨bm, 0, none⟩ = some (.int .i64 sm.power) ∧ w'.cell? ⟨bm, 1, none⟩ = some v ∧ w'.frozen? ⟨bm, 0, none⟩ = false ∧ w'.frozen? ⟨bm, 1, none⟩ = false) := by
  have hs := hs0.below h.pair.held.below
  have hb := box_below w (.cells #[.slice A1 L.length c1] 22)
  have h' := h.go hb
  have hz := h.pair.sz
  have hr := RowsAt.new1 (F := fun _ => False) (fun j hj => hj.elim) (SegS.keep (S := (· < W.heap.size)) (S' := Out w fun _ => False) hs fun j hj => ⟨⟨by omega, fun hf => hf⟩, rfl⟩) w.heap.size rfl
  refine (rappend_any sm hp v _ _ h'.pair.hS h'.pair.ref (nmK k) (by have := nmK_len k; omega) hf hd _ [L] (hr.sub fun j hj => hj.1) (by simpa using hl)).mono ?_
  rintro e w' ⟨v', rfl, g1, g2⟩
  have hfl : [L].flatten = L := by simp
  simp only [hfl] at g1 ⊢
  obtain ⟨A, c, rfl, -, -⟩ := g1.form
  have h2 := h'.go g2
  exact ⟨A, _, c, _, rfl, Lib.hid ⟨h2, refNew h'.pair g2 g1⟩, h2.pair.cells⟩
theorem Duo.rsync (h : Duo W w p st F bm sm v bn bd va vb base log) (k : Nat) (hp : sm.power ≤ 9223372036854775807) (hf : sm.files.length ≤ 900000) :
    Calls Tryz.prog 11 #[.agg #[.int .i64 sm.power, v], .string ⟨(nmK k).toArray⟩] w fun e w' => ∃ A n c er, e = .returned (.tuple #[.agg #[.int .i64 (stSync sm (nmK k)).1.power, .slice A n c], .int .i64 er]) ∧ Hid (DuoR W p st F bm sm v bn bd va vb base log (stSync sm (nmK k)).1 w' A n c) ∧ (w'.cell? ⟨bm, 0, none⟩ = some (.int .i64 sm.power) ∧ w'.cell? ⟨bm, 1, none⟩ = some v ∧ w'.frozen? ⟨bm, 0, none⟩ = false ∧ w'.frozen? ⟨bm, 1, none⟩ = false) := by
  refine (rsync_any sm hp v _ _ h.pair.hS h.pair.ref (nmK k) (by have := nmK_len k; omega) hf).mono ?_
  rintro e w' ⟨v', rfl, g1, g2⟩
  obtain ⟨A, c, rfl, -, -⟩ := g1.form
  have h2 := h.go g2
  exact ⟨A, _, c, _, rfl, Lib.hid ⟨h2, refNew h.pair g2 g1⟩, h2.pair.cells⟩
end
/-- where the law's loop stands. -/
structure OpI (W w : World) (p : Nat) (st : St) (F : Nat → Prop) (bm : Nat) (v : Value) (bn bd : Nat) (va vb : Value) (base log : List UInt8) (k : Nat) : Prop where
  duo : Duo W w p st F bm st v bn bd va vb base log
  calm : Calm st.files (2 * k) (k * 20000)
  power : st.power ≤ 9223372036854775807
/-- what the law lays in a place. -/
def layK (st : St) (base log : List UInt8) (k : Nat) : St := (stSync (stAppend st (nmK k) (dtK base log k)).1 (nmK k)).1
theorem OpI.skip {W w : World} {p : Nat} {st : St} {F : Nat → Prop} {bm : Nat} {v : Value} {bn bd : Nat} {va vb : Value} {base log : List UInt8} {k : Nat} (h : OpI W w p st F bm v bn bd va vb base log k) : OpI W w p st F bm v bn bd va vb base log (k + 1) :=
  ⟨h.duo, h.calm.mono (by omega) (by omega), h.power⟩
theorem OpI.laid {W w w' : World} {p : Nat} {st : St} {F F' : Nat → Prop} {bm : Nat} {v v' : Value} {bn bd : Nat} {va vb : Value} {base log : List UInt8} {k : Nat} (h : OpI W w p st F bm v bn bd va vb base log k) (hl : base.length + log.length ≤ 20000) (hd : Duo W w' p (layK st base log k) F' bm (layK st base log k) v' bn bd va vb base log) : OpI W w' p (layK st base log k) F' bm v' bn bd va vb base log (k + 1) :=
  ⟨hd, (sync_calm (append_calm h.calm (nmK k) (dtK base log k)) (nmK k)).mono (by omega) (by unfold dtK; split <;> omega), sync_power (append_power h.power _ _) _⟩
theorem OpI.laidL {W w w' : World} {p : Nat} {st : St} {F F' : Nat → Prop} {bm : Nat} {v v' : Value} {bn bd : Nat} {va vb : Value} {base log L : List UInt8} {k : Nat} (h : OpI W w p st F bm v bn bd va vb base log k) (hl : base.length + log.length ≤ 20000) (hL : dtK base log k = L) (hd : Duo W w' p (stSync (stAppend st (nmK k) L).1 (nmK k)).1 F' bm (stSync (stAppend st (nmK k) L).1 (nmK k)).1 v' bn bd va vb base log) : OpI W w' p (stSync (stAppend st (nmK k) L).1 (nmK k)).1 F' bm v' bn bd va vb base log (k + 1) := by
  subst hL
  exact h.laid hl hd
end Go.Proofs.YtpdelgjfamelfaaGreat
