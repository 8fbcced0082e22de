/- What JournalTells makes: the log, and where its records end; one byte that is turned. -/
import Derived.Test.YtpdelgjfamelfaaJ24
namespace Go.Proofs.Ytpdelgjfamelfaa
open Go.RowKit Go.Lib Go.Vfs Go.Par Go.Shelf
set_option linter.unusedVariables false
set_option linter.unusedSimpArgs false

/-- where the j-th record ends. -/
def endL (ls : List (List UInt8)) (j : Nat) : Nat := (encR 0 (ls.take j)).length
def endsL (ls : List (List UInt8)) (k : Nat) : List Int := (List.range k).map fun j => ((endL ls (j + 1) : Nat) : Int)
theorem endsL_succ (ls : List (List UInt8)) (k : Nat) : endsL ls (k + 1) = endsL ls k ++ [((endL ls (k + 1) : Nat) : Int)] := by unfold endsL; rw [List.range_succ, List.map_append]; rfl
theorem endsL_length (ls : List (List UInt8)) (k : Nat) : (endsL ls k).length = k := by simp [endsL]
theorem endsL_get (ls : List (List UInt8)) (k i : Nat) (h : i < k) : (endsL ls k)[i]? = some ((endL ls (i + 1) : Nat) : Int) := by simp [endsL, h]
theorem endL_mono (ls : List (List UInt8)) {i j : Nat} (h : i ≤ j) (hj : j ≤ ls.length) : endL ls i ≤ endL ls j := by
  obtain ⟨r, e, -⟩ := take_split ls h hj
  unfold endL
  rw [e, encR_append, List.length_append]
  omega
theorem endL_small {ls : List (List UInt8)} (h1 : ls.length ≤ 60) (h2 : sizeR ls ≤ 5000) (k : Nat) (hk : k ≤ ls.length) : endL ls k ≤ 6000 := by
  refine Nat.le_trans (endL_mono ls hk (Nat.le_refl _)) ?_
  unfold endL
  rw [List.take_length, encR_len]
  have := sizeR_flat ls
  omega
theorem own_empty' {w : World} {B : Nat} (hB : B ≤ w.heap.size) : Par.Own (w.alloc (.cells #[] 3)) B 3 (.slice (some ⟨w.heap.size, 0, none⟩) 0 0) [] := by
  refine ⟨rfl, .inr ⟨w.heap.size, 0, #[], rfl, hB, ?_, ?_, ?_, ?_, ?_⟩⟩
  · exact heap_alloc_new w _
  all_goals simp [maxLen]
/-- where the loop stands: k records in the log, m ends told. -/
def TJ (W wr : World) (pj p : Nat) (ls : List (List UInt8)) (k m : Nat) (s : Value) : Prop := ∃ fs F G, JH W.heap.size W wr pj p ⟨-1, fs⟩ 0 [] (ls.take k) F G ∧ V3 fs none none (lgOf 0 (ls.take k) 0) ∧ (∃ d, Calm fs k d ∧ d ≤ k * 6000) ∧ Par.Own wr W.heap.size 3 s (ints (endsL ls m)) ∧ ∀ g, s.ownBlock = some g → ¬ F g ∧ ¬ G g
section
variable {W wr w' : World} {pj p k m : Nat} {ls : List (List UInt8)} {s : Value}
theorem TJ.go (h : TJ W wr pj p ls k m s) (hb : Below wr.heap.size wr w') : TJ W w' pj p ls k m s := by
  obtain ⟨fs, F, G, h1, h2, h3, h4, h5⟩ := h
  exact ⟨fs, F, G, h1.go (Nat.le_refl _) hb, h2, h3, h4.below hb, h5⟩
theorem TJ.below (h : TJ W wr pj p ls k m s) : Below W.heap.size W wr := by
  obtain ⟨fs, F, G, h1, h2, h3, h4, h5⟩ := h
  exact h1.below
theorem TJ.own (h : TJ W wr pj p ls k m s) : Par.Own wr W.heap.size 3 s (ints (endsL ls m)) := by
  obtain ⟨fs, F, G, h1, h2, h3, h4, h5⟩ := h
  exact h4
theorem TJ.append (h : TJ W wr pj p ls k m s) (hk : k < ls.length) (hl : ls.length ≤ 60) {w2 : World} (hb : Below wr.heap.size wr w2) {u : Value} (hu : Par.Own w2 wr.heap.size 5 u (byteCells (ls.getD k []))) (hL : (ls.getD k []).length ≤ 5000) :
    Calls Try.prog 41 #[.pointer (some ⟨pj, 0, none⟩), u] w2 fun e w' => e = .returned (.int .i64 0) ∧ Hid (TJ W w' pj p ls (k + 1) m s) := by
  obtain ⟨fs, F, G, h1, h2, h3, h4, h5⟩ := h
  have h6 := h1.go (Nat.le_refl _) hb
  have hlt := h1.lt
  have hsg : SegS (fun j => j < w2.heap.size ∧ ¬ F j) w2 u (byteCells (ls.getD k [])) := (own_seg hu).keep fun j hj => ⟨⟨(hu.lt j hj).2, fun hf => by have := hlt j (.inl hf); have := (hu.lt j hj).1; omega⟩, rfl⟩
  obtain ⟨d, h3, hd⟩ := h3
  have hd2 : d ≤ 400000 := by omega
  refine (jappend_any h6.jf u _ hsg (by omega) (h3.modest (st := ⟨-1, fs⟩) (show (-1 : Int) ≤ 9223372036854775807 by decide) (by omega) (by omega)) (by rw [List.length_take]; omega)).mono ?_
  rw [jAppend_on]
  rintro e w' ⟨rfl, hp⟩
  obtain ⟨F', G', h7, hkp, hgF, hgG⟩ := h6.op (Nat.le_refl _) hp
  have htk : ls.take (k + 1) = ls.take k ++ [ls.getD k []] := by
    rw [List.take_succ_eq_append_getElem hk, List.getD_eq_getElem?_getD, List.getElem?_eq_getElem hk]; rfl
  rw [← htk] at h7
  have hv := h2.appL (frameB 0 (ls.getD k []))
  rw [lgOf_add (fun _ => rfl)] at hv
  have ho2 := h4.below hb
  refine ⟨rfl, Lib.hid ⟨_, F', G', h7, by rw [htk, lgOf_snoc]; exact hv, ⟨_, h3.app (s := nLog) (by decide), by rw [frameB_length]; omega⟩, own_turn ho2 fun g e => hkp.block g (ho2.lt g e).2 (fun hn => by rcases hn with hn | hn; exact (h5 g e).1 hn; exact (h5 g e).2 hn), fun g e => ⟨fun hf => ?_, fun hg => ?_⟩⟩⟩
  · rcases hgF g hf with a | a
    · exact (h5 g e).1 a
    · have := (ho2.lt g e).2; omega
  · rcases hgG g hg with a | a
    · exact (h5 g e).2 a
    · have := (ho2.lt g e).2; omega
theorem TJ.read (h : TJ W wr pj p ls (k + 1) m s) (hk : k < ls.length) (hl : ls.length ≤ 60) :
    Calls Try.prog 19 #[.pointer (some ⟨p, 0, none⟩), .string ⟨#[108, 111, 103]⟩] wr fun e w' => ∃ A c, e = .returned (.tuple #[.slice A (endL ls (k + 1)) c, .int .i64 0]) ∧ Hid (Par.Own w' wr.heap.size 5 (.slice A (endL ls (k + 1)) c) (byteCells (encR 0 (ls.take (k + 1))))) ∧ Hid (Below wr.heap.size wr w') := by
  obtain ⟨fs, F, G, h1, h2, h3, h4, h5⟩ := h
  have hne : ls.take (k + 1) ≠ [] := fun e => by have := congrArg List.length e; rw [List.length_take, List.length_nil] at this; omega
  have hlg : lgOf 0 (ls.take (k + 1)) 0 = some ⟨nLog, encR 0 (ls.take (k + 1)), 0⟩ := by unfold lgOf; rw [if_neg hne]
  have hf := stFind_of (st := ⟨-1, fs⟩) (s := nLog) (by decide) (h2.lg.trans hlg)
  obtain ⟨d, h3, hd⟩ := h3
  have hd2 : d ≤ 400000 := by omega
  refine (read_any wr p ⟨-1, fs⟩ F h1.jf.fs ⟨#[108, 111, 103]⟩ (by decide) (fun f hf => by have := h3.data f hf; omega)).mono ?_
  rintro e w' ⟨hb, hpost⟩
  rw [show (ByteArray.mk #[108, 111, 103]).data.toList = nLog from rfl, hf] at hpost
  obtain ⟨u, rfl, hu⟩ := hpost
  obtain ⟨A, c, hfm⟩ := Own.formB hu
  subst hfm
  exact ⟨A, c, rfl, Lib.hid hu, Lib.hid hb⟩
theorem TJ.read0 (h : TJ W wr pj p [] 0 m s) : Calls Try.prog 19 #[.pointer (some ⟨p, 0, none⟩), .string ⟨#[108, 111, 103]⟩] wr fun e w' => e = .returned (.tuple #[.slice none 0 0, .int .i64 11]) ∧ Hid (Below wr.heap.size wr w') := by
  obtain ⟨fs, F, G, h1, h2, h3, h4, h5⟩ := h
  obtain ⟨d, h3, hd⟩ := h3
  have hf := stFind_none (st := ⟨-1, fs⟩) (s := nLog) (by decide) (h2.lg.trans (by simp [lgOf]))
  refine (read_any wr p ⟨-1, fs⟩ F h1.jf.fs ⟨#[108, 111, 103]⟩ (by decide) (fun f hf => ?_)).mono ?_
  · have hz : fs.length = 0 := by have := h3.files; omega
    have : fs = [] := List.eq_nil_of_length_eq_zero hz
    simp only [this] at hf
    cases hf
  · rintro e w' ⟨hb, hpost⟩
    rw [show (ByteArray.mk #[108, 111, 103]).data.toList = nLog from rfl, hf] at hpost
    exact ⟨hpost, Lib.hid hb⟩
/-- one end more. -/
theorem TJ.grow (h : TJ W wr pj p ls k m s) {w5 : World} {s' : Value} (hown : Par.Own w5 W.heap.size 3 s' (ints (endsL ls m) ++ [.int .i64 ((endL ls (m + 1) : Nat) : Int)])) (hg : wr.grownBy w5 s.ownBlock) (hat : s'.ownBlock = s.ownBlock ∨ s'.ownBlock = some wr.heap.size) : TJ W w5 pj p ls k (m + 1) s' := by
  obtain ⟨fs, F, G, h1, h2, h3, h4, h5⟩ := h
  have hBW := h1.below.size
  have hzg := hg.size
  refine ⟨fs, F, G, ⟨⟨h1.jf.fs.keep fun j hj => hg.block j (h1.jf.fs.lt j hj) (fun e => (h5 j e.symm).1 hj), h1.jf.js.block fun j hj => hg.block j (h1.jf.js.lt j hj) (fun e => (h5 j e.symm).2 hj), h1.jf.apart⟩, h1.fnew, h1.gnew, h1.below.grown hg hBW (fun g e => (h4.lt g e).1)⟩, h2, h3, ?_, fun g e => ?_⟩
  · rw [endsL_succ, ints_append]; exact hown
  · rcases hat with e1 | e1
    · exact h5 g (e1 ▸ e)
    · rw [e1] at e
      injection e with e
      exact ⟨fun hf => by have := h1.jf.fs.lt g hf; omega, fun hg2 => by have := h1.jf.js.lt g hg2; omega⟩
end
/-- how many records end at or ahead of a place. -/
structure WI (ls : List (List UInt8)) (a c i : Nat) : Prop where
  le : c ≤ i
  lo : ∀ j, j < c → endL ls (j + 1) ≤ a
  hi : ∀ j, c ≤ j → j < i → a < endL ls (j + 1)
theorem WI.yes {ls : List (List UInt8)} {a c i : Nat} (h : WI ls a c i) (hi : i < ls.length) (he : endL ls (i + 1) ≤ a) : WI ls a (c + 1) (i + 1) := by
  have hci : c = i := by
    rcases Nat.lt_or_ge c i with hlt | hge
    · have h1 := h.hi c (Nat.le_refl _) hlt
      have h2 := endL_mono ls (show c + 1 ≤ i + 1 by omega) (by omega)
      omega
    · have := h.le; omega
  subst hci
  refine ⟨Nat.le_refl _, fun j hj => ?_, fun j h1 h2 => by omega⟩
  by_cases h1 : j < c
  · exact h.lo j h1
  · have : j = c := by omega
    subst this; exact he
theorem WI.no {ls : List (List UInt8)} {a c i : Nat} (h : WI ls a c i) (he : a < endL ls (i + 1)) : WI ls a c (i + 1) :=
  ⟨by have := h.le; omega, h.lo, fun j h1 h2 => by
    by_cases h3 : j < i
    · exact h.hi j h1 h3
    · have : j = i := by omega
      subst this; exact he⟩
theorem WI.done {ls : List (List UInt8)} {a c : Nat} (h : WI ls a c ls.length) (ha : a < endL ls ls.length) (hl : 0 < ls.length) : c < ls.length ∧ endL ls c ≤ a ∧ a < endL ls (c + 1) := by
  have hc : c < ls.length := by
    rcases Nat.lt_or_ge c ls.length with h1 | h1
    · exact h1
    · have h2 := h.le
      have : c = ls.length := by omega
      subst this
      have h3 := h.lo (ls.length - 1) (by omega)
      rw [show ls.length - 1 + 1 = ls.length by omega] at h3
      omega
  refine ⟨hc, ?_, h.hi c (Nat.le_refl _) hc⟩
  cases c with
  | zero => simp [endL, encR]
  | succ c => exact h.lo c (by omega)
/-- a byte that is turned. -/
theorem turn_byte (x : UInt8) (t : Int) (h0 : 0 ≤ t) (h1 : t ≤ 255) (hne : t ≠ 0) : ∃ v : UInt8, bits .xor .u8 ((x.toNat : Nat) : Int) t = ((v.toNat : Nat) : Int) ∧ v ≠ x := by
  have hx := x.toNat_lt
  obtain ⟨tn, rfl⟩ : ∃ tn : Nat, t = tn := ⟨t.toNat, by omega⟩
  have hlt : x.toNat ^^^ tn < 256 := Nat.xor_lt_two_pow (n := 8) (by omega) (by omega)
  have h3 : ((x.toNat ^^^ tn).toUInt8).toNat = x.toNat ^^^ tn := by
    show (UInt8.ofNat (x.toNat ^^^ tn)).toNat = _
    rw [UInt8.toNat_ofNat']
    exact Nat.mod_eq_of_lt hlt
  refine ⟨(x.toNat ^^^ tn).toUInt8, ?_, fun e => ?_⟩
  · rw [u8_xor_nat _ _ (by omega) (by omega), h3]
  · have h2 := congrArg UInt8.toNat e
    rw [h3] at h2
    have h4 : tn = 0 := by
      have := congrArg (x.toNat ^^^ ·) h2
      simpa [← Nat.xor_assoc] using this
    exact hne (by omega)
/-- bytes of one's own of which one is written. -/
theorem seg_set {w : World} {B g n c a : Nat} {D : List UInt8} (h : Par.Own w B 5 (.slice (some ⟨g, 0, none⟩) n c) (byteCells D)) (v : UInt8) (ha : a < D.length) : SegS (fun k => k = g) (w.setCell ⟨g, a, none⟩ (.int .u8 ((v.toNat : Nat) : Int))) (.slice (some ⟨g, 0, none⟩) n c) (byteCells (D.set a v)) := by
  obtain ⟨A, c', he, h2, h3, h4⟩ := own_seg h
  injection he with e1 e2 e3
  subst e3
  have hl : (byteCells (D.set a v)).length = (byteCells D).length := by rw [byteCells_length, byteCells_length, List.length_set]
  refine ⟨some ⟨g, 0, none⟩, c, by rw [hl, e2], by rw [hl]; exact h2, h3, fun hp => ⟨g, 0, rfl, rfl, fun i hi => ?_⟩⟩
  rw [hl] at hp hi
  obtain ⟨b, off, e, -, hcell⟩ := h4 hp
  rw [e] at e1
  injection e1 with e1
  injection e1 with e4 e5
  subst e4 e5
  have hci := hcell i hi
  rw [byteCells_length] at hi
  simp only [byteCells, List.getElem?_map] at hci ⊢
  by_cases hia : i = a
  · subst hia
    rw [List.getElem?_set_self hi]
    rw [List.getElem?_eq_getElem hi] at hci
    simp only [Nat.zero_add] at hci ⊢
    exact World.cell?_setCell_same' w _ _ (by rw [hci]; rfl)
  · rw [List.getElem?_set_ne (fun e => hia e.symm)]
    rw [← hci]
    exact World.cell?_setCell_other _ _ _ _ (fun e => hia (by injection e with e1 e2; omega))
end Go.Proofs.Ytpdelgjfamelfaa
