import Derived.Test.YtpdelgjfamelfaaV6
namespace Go.Proofs.Ytpdelgjfamelfaa
open Go.RowKit Go.Lib Go.Vfs Go.Par
set_option linter.unusedVariables false

/- what the calls do, as the document has it. -/
def doSt (st : St) (fs : List File) : St × Int := if st.power = 0 then (st, 13) else (⟨dec st.power, fs⟩, 0)
def stAppend (st : St) (s L : List UInt8) : St × Int := if nameB s then doSt st (appF s L st.files) else (st, 10)

def OpPost (w : World) (p : Nat) (F : Nat → Prop) (r : St × Int) (e : Ending) (w' : World) : Prop :=
  ∃ F', e = .returned (.int .i64 r.2) ∧ Fsy w' p r.1 F' ∧ Kept F w w' ∧ Grows w F F'
theorem OpPost.same {w w' : World} {p : Nat} {st : St} {F : Nat → Prop} {n : Int} (h : Fsy w p st F) (hb : Below w.heap.size w w') : OpPost w p F (st, n) (.returned (.int .i64 n)) w' :=
  ⟨F, rfl, h.keep (fun k hk => hb.block k (h.lt k hk)), Kept.of_below hb, Grows.refl _ _⟩
theorem OpPost.did {w W w1 w' : World} {p : Nat} {st : St} {xs : List FileR} {mb : Nat} {fs : List File} (hne : st.power ≠ 0) (hb : Below w.heap.size w W) (h : FSAt W p st.power xs mb) (hk : Kept (· = p) W w1) (hd : DoPost w1 p (dec st.power) xs mb fs w') :
    OpPost w p (OwnF p mb xs) (doSt st fs) (.returned (.int .i64 0)) w' := by
  obtain ⟨xs', h1, h2, h3, h4⟩ := hd
  unfold doSt
  rw [if_neg hne]
  have hk1 : Kept (OwnF p mb xs) w w1 := (Kept.of_below hb).trans' ⟨hk.os, hk.tape, hk.output, hk.size, fun i hi hn => hk.block i hi (fun e => hn (.inl e))⟩
  exact ⟨_, rfl, ⟨xs', mb, h1.symm, h2, rfl⟩, hk1.trans' h3, fun k hk' => by
    rcases h4 k hk' with h5 | h5
    · exact .inl h5
    · right; have := hk1.size; omega⟩

theorem FSAt.below {w w' : World} {p : Nat} {pow : Int} {xs : List FileR} {mb : Nat} (h : FSAt w p pow xs mb) (hb : Below w.heap.size w w') : FSAt w' p pow xs mb := h.block fun k hk => hb.block k (h.lt k hk)
theorem RowsAt.old {w w' : World} {F : Nat → Prop} {v : Value} {ls : List (List UInt8)} (h : RowsAt (Out w F) w v ls) (hb : Below w.heap.size w w') : RowsAt (Out w' F) w' v ls := h.below hb
/-- bounds on a file system. -/
def Modest (st : St) (n : Nat) : Prop := (∀ f ∈ st.files, f.data.length + n ≤ 2147483648) ∧ n ≤ 2147483648 ∧ st.files.length < 2147483648 ∧ st.power ≤ 9223372036854775807

/- boxes that a call has just laid. -/
theorem box_new (w : World) (v : Value) (t : TypeId) : (w.alloc (.cells #[v] t)).cell? ⟨w.heap.size, 0, none⟩ = some v := by simp
theorem box_old {w : World} {b o : Nat} {v : Value} {ob : Obj} (h : w.cell? ⟨b, o, none⟩ = some v) : (w.alloc ob).cell? ⟨b, o, none⟩ = some v := by
  rw [World.cell?_alloc_lt _ _ _ (World.block_lt_of_cell? w _ h)]; exact h

set_option maxRecDepth 20000 in
set_option maxHeartbeats 1000000 in
theorem append_any (w : World) (p : Nat) (st : St) (F : Nat → Prop) (h : Fsy w p st F) (s : ByteArray) (hs : s.size ≤ 9223372036854775807) (v : Value) (ls : List (List UInt8)) (hp : RowsAt (Out w F) w v ls) (hm : Modest st ls.flatten.length) :
    Calls Try.prog 17 #[.pointer (some ⟨p, 0, none⟩), .string s, v] w (OpPost w p F (stAppend st s.data.toList ls.flatten)) := by
  obtain ⟨xs, mb, hfs, hat, rfl⟩ := h
  obtain ⟨A0, c0, rfl, _⟩ : ∃ A0 c0, v = .slice A0 ls.length c0 ∧ True := by
    obtain ⟨vs, h1, ⟨A, c, h2, _⟩, _⟩ := hp
    exact ⟨A, c, by rw [h2, h1], trivial⟩
  have hb : Below w.heap.size w (((w.alloc (.cells #[.pointer (some ⟨p, 0, none⟩)] 24)).alloc (.cells #[.string s] 9)).alloc (.cells #[.slice A0 ls.length c0] 42)) := ((((Below.refl _ w).alloc (Nat.le_refl _) _).alloc (by simp) _).alloc (by simp; omega) _)
  have hat3 := hat.below hb
  have hp3 := hp.below hb
  have hn := fun W => isName_any s W hs
  unfold stAppend
  have HB := Lib.hid hb; clear hb
  have HAT := Lib.hid hat; clear hat
  have HAT3 := Lib.hid hat3; clear hat3
  have HP3 := Lib.hid hp3; clear hp3 hp
  have HM := Lib.hid hm; clear hm
  have HFS := Lib.hid hfs; clear hfs
  cases hnm : nameB s.data.toList with
  | false =>
    rw [hnm] at hn
    simp only [Bool.false_eq_true, if_false]
    go_enter Try.func17, Try.ntmps17
    go_wp2_with (go_at_call 47; refine (hn _).mono ?_; rintro e w1 ⟨rfl, rfl⟩)
    go_ret
    exact OpPost.same ⟨xs, mb, HFS.out, HAT.out, rfl⟩ HB.out
  | true =>
    rw [hnm] at hn
    simp only [if_true]
    by_cases hz : st.power = 0
    · have hr : doSt st (appF s.data.toList ls.flatten st.files) = (st, 13) := by unfold doSt; rw [if_pos hz]
      rw [hr]
      rw [hz] at HAT3
      have HZ := Lib.hid hz; clear hz hr
      go_enter Try.func17, Try.ntmps17
      go_wp2_with (go_at_call 47; refine (hn _).mono ?_; rintro e w1 ⟨rfl, rfl⟩)
      refine (change_down _ p xs mb HAT3.out _).mono ?_
      rintro e w1 ⟨rfl, rfl⟩
      go_wp2
      go_ret
      exact OpPost.same ⟨xs, mb, HFS.out, HAT.out, rfl⟩ HB.out
    · have HZ := Lib.hid hz; clear hz
      go_enter Try.func17, Try.ntmps17
      go_wp2_with (go_at_call 47; refine (hn _).mono ?_; rintro e w1 ⟨rfl, rfl⟩)
      refine (changeAppend1 _ p st.power xs mb HAT3.out HZ.out HM.out.2.2.2 _ (fun w' => OpPost w p (OwnF p mb xs) (doSt st (appF s.data.toList ls.flatten st.files)) (.returned (.int .i64 0)) w') (fun w1 h1 k1 s1 => ?_)).mono ?_
      · have e0 := box_old (ob := .cells #[.slice A0 ls.length c0] 42) (box_old (ob := .cells #[.string s] 9) (box_new w (.pointer (some ⟨p, 0, none⟩)) 24))
        have e1 := box_old (ob := .cells #[.slice A0 ls.length c0] 42) (box_new (w.alloc (.cells #[.pointer (some ⟨p, 0, none⟩)] 24)) (.string s) 9)
        have e2 := box_new ((w.alloc (.cells #[.pointer (some ⟨p, 0, none⟩)] 24)).alloc (.cells #[.string s] 9)) (.slice A0 ls.length c0) 42
        simp only [World.size_alloc] at e1 e2
        have hpl := HAT.out.lt
        have hp0 : p < w.heap.size := lt_of_block HAT.out.head
        have hgr : Grows (((w.alloc (.cells #[.pointer (some ⟨p, 0, none⟩)] 24)).alloc (.cells #[.string s] 9)).alloc (.cells #[.slice A0 ls.length c0] 42)) (OwnF p mb xs) (OwnF p mb xs) := Grows.refl _ _
        refine (append1_any w1 p (dec st.power) xs mb h1 w.heap.size (w.heap.size + 1) (w.heap.size + 1 + 1) s hs _ ls ((k1.cell (p := ⟨_, _, _⟩) (by first | omega | (simp; done) | (simp; omega)) (by first | omega | (simp; done) | (simp; omega))).trans e0) ((k1.cell (p := ⟨_, _, _⟩) (by first | omega | (simp; done) | (simp; omega)) (by first | omega | (simp; done) | (simp; omega))).trans e1) ((k1.cell (p := ⟨_, _, _⟩) (by first | omega | (simp; done) | (simp; omega)) (by first | omega | (simp; done) | (simp; omega))).trans e2) (fun hm => by have := hpl _ hm; omega)
          (HP3.out.kept ⟨k1.os, k1.tape, k1.output, k1.size, fun i hi hn => k1.block i hi (fun e => hn (.inl e))⟩ hgr) (fun x hx => HM.out.1 x.f (by rw [HFS.out]; exact List.mem_map_of_mem hx)) HM.out.2.1 (by have := HM.out.2.2.1; rw [HFS.out] at this; simpa using this)).mono ?_
        rintro e w2 ⟨rfl, hd⟩
        rw [← HFS.out] at hd
        exact ⟨rfl, OpPost.did HZ.out HB.out HAT3.out k1 hd⟩
      · rintro e w1 ⟨rfl, hpost⟩
        have HPO := Lib.hid hpost; clear hpost
        go_wp2
        go_ret
        exact HPO.out
end Go.Proofs.Ytpdelgjfamelfaa
