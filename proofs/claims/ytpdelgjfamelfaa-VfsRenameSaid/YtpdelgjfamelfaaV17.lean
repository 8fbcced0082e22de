import Derived.Test.YtpdelgjfamelfaaV16
import Derived.Lib.SmallJoins
import Derived.Lib.SlBytesConst
namespace Go.Proofs.Ytpdelgjfamelfaa
open Go.RowKit Go.Lib Go.Vfs Go.Par
set_option linter.unusedVariables false

/- rows that a statement has just laid. -/
theorem SegS.new {w : World} {F : Nat → Prop} (hF : ∀ k, F k → k < w.heap.size) (xs : List Value) (cs : Array Value) (hcs : cs = xs.toArray) (n : Nat) (hn : xs.length = n) (hm : n ≤ maxLen) (t : TypeId) (fr : Nat × Nat) (g : Nat) (hg : g = w.heap.size) :
    SegS (Out (w.alloc (.cells cs t fr)) F) (w.alloc (.cells cs t fr)) (.slice (some ⟨g, 0, none⟩) n n) xs := by
  subst hcs hn hg
  refine ⟨_, _, rfl, Nat.le_refl _, hm, fun _ => ⟨_, _, rfl, ⟨by simp, fun h => by have := hF _ h; omega⟩, fun i hi => ?_⟩⟩
  rw [World.cell?_alloc_mark]
  simp
theorem SegS.alloc {w : World} {F : Nat → Prop} {v : Value} {xs : List Value} (h : SegS (Out w F) w v xs) (o : Obj) : SegS (Out (w.alloc o) F) (w.alloc o) v xs := h.below ((Below.refl _ w).alloc (Nat.le_refl _) _)
theorem Fsy.below {w w' : World} {p : Nat} {st : St} {F : Nat → Prop} (h : Fsy w p st F) (hb : Below w.heap.size w w') : Fsy w' p st F := h.keep fun k hk => hb.block k (h.lt k hk)
theorem Fsy.alloc {w : World} {p : Nat} {st : St} {F : Nat → Prop} (h : Fsy w p st F) (o : Obj) : Fsy (w.alloc o) p st F := h.below ((Below.refl _ w).alloc (Nat.le_refl _) _)
theorem RowsAt.new1 {w : World} {F : Nat → Prop} (hF : ∀ k, F k → k < w.heap.size) {v : Value} {l : List UInt8} (h : SegS (Out w F) w v (byteCells l)) (g : Nat) (hg : g = w.heap.size) :
    RowsAt (Out (w.alloc (.cells #[v] 22)) F) (w.alloc (.cells #[v] 22)) (.slice (some ⟨g, 0, none⟩) 1 1) [l] :=
  ⟨[v], rfl, SegS.new hF [v] #[v] rfl 1 rfl (by decide) _ _ g hg, fun i hi => by
    obtain rfl : i = 0 := by simp at hi; omega
    exact SegS.alloc h _⟩
theorem RowsAt.new2 {w : World} {F : Nat → Prop} (hF : ∀ k, F k → k < w.heap.size) {v v' : Value} {l l' : List UInt8} (h : SegS (Out w F) w v (byteCells l)) (h' : SegS (Out w F) w v' (byteCells l')) (g : Nat) (hg : g = w.heap.size) :
    RowsAt (Out (w.alloc (.cells #[v, v'] 22)) F) (w.alloc (.cells #[v, v'] 22)) (.slice (some ⟨g, 0, none⟩) 2 2) [l, l'] :=
  ⟨[v, v'], rfl, SegS.new hF [v, v'] #[v, v'] rfl 2 rfl (by decide) _ _ g hg, fun i hi => by
    rcases i with _ | _ | i
    · exact SegS.alloc h _
    · exact SegS.alloc h' _
    · simp at hi; omega⟩

/-- a file system whose blocks are new since B, in a world that leaves what lay below B. -/
structure Held (B : Nat) (w0 w : World) (p : Nat) (st : St) (F : Nat → Prop) : Prop where
  fs : Fsy w p st F
  new : ∀ k, F k → B ≤ k
  below : Below B w0 w
theorem Held.op {B : Nat} {w0 w w' : World} {p : Nat} {st : St} {F F' : Nat → Prop} (h : Held B w0 w p st F) (hB : B ≤ w0.heap.size) {st' : St} (h1 : Fsy w' p st' F') (h2 : Kept F w w') (h3 : Grows w F F') : Held B w0 w' p st' F' := by
  have hs : B ≤ w.heap.size := Nat.le_trans hB h.below.size
  exact ⟨h1, fun k hk => by rcases h3 k hk with a | a; exact h.new k a; omega, h.below.trans (h2.below hs h.new)⟩
theorem Held.go {B : Nat} {w0 w w' : World} {p : Nat} {st : St} {F : Nat → Prop} (h : Held B w0 w p st F) (hB : B ≤ w0.heap.size) (hb : Below w.heap.size w w') : Held B w0 w' p st F :=
  ⟨h.fs.below hb, h.new, h.below.trans (hb.mono (Nat.le_trans hB h.below.size))⟩

theorem Held.size {B : Nat} {w0 w : World} {p : Nat} {st : St} {F : Nat → Prop} (h : Held B w0 w p st F) (hB : B ≤ w0.heap.size) : B ≤ w.heap.size := Nat.le_trans hB h.below.size
theorem Held.append {B : Nat} {w0 w : World} {p : Nat} {st : St} {F : Nat → Prop} (h : Held B w0 w p st F) (hB : B ≤ w0.heap.size) {s : ByteArray} (hs : s.size ≤ 9223372036854775807) {v : Value} {ls : List (List UInt8)} (hp : RowsAt (Out w F) w v ls) (hm : Modest st ls.flatten.length) :
    Calls Try.prog 17 #[.pointer (some ⟨p, 0, none⟩), .string s, v] w fun e w' => ∃ F', e = .returned (.int .i64 (stAppend st s.data.toList ls.flatten).2) ∧ Held B w0 w' p (stAppend st s.data.toList ls.flatten).1 F' ∧ Kept F w w' ∧ Grows w F F' := by
  refine (append_any w p st F h.fs s hs v ls hp hm).mono ?_
  rintro e w' ⟨F', h1, h2, h3, h4⟩
  exact ⟨F', h1, h.op hB h2 h3 h4, h3, h4⟩
theorem Held.sync {B : Nat} {w0 w : World} {p : Nat} {st : St} {F : Nat → Prop} (h : Held B w0 w p st F) (hB : B ≤ w0.heap.size) {s : ByteArray} (hs : s.size ≤ 9223372036854775807) (hpw : st.power ≤ 9223372036854775807) :
    Calls Try.prog 31 #[.pointer (some ⟨p, 0, none⟩), .string s] w fun e w' => ∃ F', e = .returned (.int .i64 (stSync st s.data.toList).2) ∧ Held B w0 w' p (stSync st s.data.toList).1 F' ∧ Kept F w w' ∧ Grows w F F' := by
  refine (sync_any w p st F h.fs s hs hpw).mono ?_
  rintro e w' ⟨F', h1, h2, h3, h4⟩
  exact ⟨F', h1, h.op hB h2 h3 h4, h3, h4⟩

/-- 'string(b)' -/
theorem conv_seg {w : World} {B : Nat} {v : Value} {l : List UInt8} (h : Seg w B v (Lib.byteCells l)) : (convert 22 9 v).run Try.prog w = .ok (.string ⟨l.toArray⟩) w := by
  obtain ⟨A, c, rfl, hc, hm, hat⟩ := h
  rw [Lib.byteCells_length] at hat ⊢
  rcases A with _ | a
  · have h0 : l.length = 0 := by
      rcases Nat.eq_zero_or_pos l.length with h | h
      · exact h
      · obtain ⟨_, _, e, _⟩ := hat h; cases e
    have : l = [] := List.eq_nil_of_length_eq_zero h0
    subst this
    rw [List.length_nil, run_convert_bytes_string _ 22 9 5 none 0 c Try.underlying22 Try.underlying5 Try.underlying9]
    rfl
  · refine run_convert_bytes_back (P := Try.prog) w 22 9 5 a c l Try.underlying22 Try.underlying5 Try.underlying9 (fun j hj => ?_)
    obtain ⟨b, off, e, _, hcell⟩ := hat (by omega)
    cases e
    rw [add_addr, hcell j hj]
    simp [Lib.byteCells, hj]

def logN : List UInt8 := [108, 111, 103]
theorem al1 : stAppend ⟨-1, []⟩ logN [97, 98, 99] = (⟨-1, [⟨logN, [97, 98, 99], 0⟩]⟩, 0) := by rfl
theorem al2 : stSync ⟨-1, [⟨logN, [97, 98, 99], 0⟩]⟩ logN = (⟨-1, [⟨logN, [97, 98, 99], 3⟩]⟩, 0) := by rfl
theorem al3 : stAppend ⟨-1, [⟨logN, [97, 98, 99], 3⟩]⟩ logN [100, 101] = (⟨-1, [⟨logN, [97, 98, 99, 100, 101], 3⟩]⟩, 0) := by rfl
theorem al4 : stCrash ⟨-1, [⟨logN, [97, 98, 99, 100, 101], 3⟩]⟩ [1] (-1) = ⟨-1, [⟨logN, [97, 98, 99, 100], 4⟩]⟩ := by rfl
theorem al5 : stFind ⟨-1, [⟨logN, [97, 98, 99, 100], 4⟩]⟩ logN = .ok ⟨logN, [97, 98, 99, 100], 4⟩ := by rfl

set_option maxRecDepth 20000 in
set_option maxHeartbeats 1000000 in
theorem alive_any (w : World) : Calls Try.prog 14 #[] w fun e w' => e = .returned (.bool true) ∧ Below w.heap.size w w' := by
  go_enter Try.func14, Try.ntmps14
  go_wp2_with fail
  refine (new_fs (-1) w).mono ?_
  rintro e w1 ⟨p, F, rfl, hfs, hF, hb1⟩
  have H1 : Hid (Held w.heap.size w w1 p ⟨-1, []⟩ F) := Lib.hid ⟨hfs, fun k hk => (hF k hk).1, hb1⟩
  clear hfs hF hb1
  have kc := fun (w : World) (C : Array Value) (n c g : Nat) (hg : g = w.heap.size) => _root_.Go.Joins.run_convert_bytes_const_at (P := Try.prog) w 22 5 C n c g hg Try.underlying22 Try.underlying5
  have k1 := kc w1 #[.int .u8 97, .int .u8 98] 2 2 _ rfl
  have k2 := kc (w1.alloc (.cells #[.int .u8 97, .int .u8 98] 5 (2, 3))) #[.int .u8 99] 1 1 (w1.heap.size + 1) (by simp)
  have KC := Lib.hid kc; clear kc
  simp only [List.size_toArray, List.length_cons, List.length_nil, Nat.reduceAdd] at k1 k2
  go_wp2_with fail
  have hr1 : RowsAt (Out _ F) _ _ [[97, 98], [99]] := RowsAt.new2 (w := (w1.alloc (.cells #[.int .u8 97, .int .u8 98] 5 (2, 3))).alloc (.cells #[.int .u8 99] 5 (1, 2))) (F := F) (fun k hk => by have := H1.out.fs.lt k hk; simp; omega)
    (SegS.alloc (SegS.new (fun k hk => H1.out.fs.lt k hk) (byteCells [97, 98]) _ rfl 2 rfl (by decide) _ _ w1.heap.size rfl) _) (SegS.new (fun k hk => by have := H1.out.fs.lt k hk; simp; omega) (byteCells [99]) _ rfl 1 rfl (by decide) _ _ (w1.heap.size + 1) (by simp)) (w1.heap.size + 1 + 1) (by simp)
  have H2 := (H1.out.go (Nat.le_refl _) (((Below.refl _ w1).alloc (Nat.le_refl _) (.cells #[.int .u8 97, .int .u8 98] 5 (2, 3))).alloc (by simp) (.cells #[.int .u8 99] 5 (1, 2)))).go (Nat.le_refl _) ((Below.refl _ _).alloc (Nat.le_refl _) (.cells #[.slice (some ⟨w1.heap.size, 0, none⟩) 2 2, .slice (some ⟨w1.heap.size + 1, 0, none⟩) 1 1] 22))
  refine (H2.append (Nat.le_refl _) (by decide) hr1 ⟨by simp, by decide, by simp, by decide⟩).mono ?_
  clear hr1 H2 H1 k1 k2
  rintro e w2 ⟨F2, he, H2, -, -⟩
  replace he : e = .returned (.int .i64 0) := he
  subst he
  replace H2 : Hid (Held w.heap.size w w2 p ⟨-1, [⟨logN, [97, 98, 99], 0⟩]⟩ F2) := Lib.hid H2
  go_wp2_with fail
  refine (H2.out.sync (Nat.le_refl _) (by decide) (by decide)).mono ?_
  clear H2
  rintro e w3 ⟨F3, he, H3, -, -⟩
  replace he : e = .returned (.int .i64 0) := he
  subst he
  replace H3 : Hid (Held w.heap.size w w3 p ⟨-1, [⟨logN, [97, 98, 99], 3⟩]⟩ F3) := Lib.hid H3
  have k3 := KC.out w3 #[.int .u8 100, .int .u8 101] 2 2 _ rfl
  simp only [List.size_toArray, List.length_cons, List.length_nil, Nat.reduceAdd] at k3
  go_wp2_with fail
  have hr3 : RowsAt (Out _ F3) _ _ [[100, 101]] := RowsAt.new1 (w := w3.alloc (.cells #[.int .u8 100, .int .u8 101] 5 (2, 3))) (F := F3) (fun k hk => by have := H3.out.fs.lt k hk; simp; omega)
    (SegS.new (fun k hk => H3.out.fs.lt k hk) (byteCells [100, 101]) _ rfl 2 rfl (by decide) _ _ w3.heap.size rfl) (w3.heap.size + 1) (by simp)
  have H4 := (H3.out.go (Nat.le_refl _) ((Below.refl _ w3).alloc (Nat.le_refl _) (.cells #[.int .u8 100, .int .u8 101] 5 (2, 3)))).go (Nat.le_refl _) ((Below.refl _ _).alloc (Nat.le_refl _) (.cells #[.slice (some ⟨w3.heap.size, 0, none⟩) 2 2] 22))
  refine (H4.append (Nat.le_refl _) (by decide) hr3 ⟨by simp, by decide, by simp, by decide⟩).mono ?_
  clear hr3 H4 H3 k3
  rintro e w4 ⟨F4, he, H4, -, -⟩
  replace he : e = .returned (.int .i64 0) := he
  subst he
  replace H4 : Hid (Held w.heap.size w w4 p ⟨-1, [⟨logN, [97, 98, 99, 100, 101], 3⟩]⟩ F4) := Lib.hid H4
  go_wp2_with fail
  have H5 := H4.out.go (Nat.le_refl _) ((Below.refl _ w4).alloc (Nat.le_refl _) (.cells #[.int .i64 1] 3))
  have hk5 := (SegS.new (w := w4) (F := fun _ => False) (fun k hk => hk.elim) (ints [1]) #[.int .i64 1] rfl 1 rfl (by decide) 3 (0, 0) w4.heap.size rfl).out
  refine (crash_any _ p _ _ H5.fs (by decide) (by decide) (by decide) _ [1] hk5 (-1)).mono ?_
  rintro e w5 ⟨p', F5, rfl, hfs5, hF5, hb5⟩
  have h5s := H5.size (Nat.le_refl _)
  replace H5 : Hid (Held w.heap.size w w5 p' ⟨-1, [⟨logN, [97, 98, 99, 100], 4⟩]⟩ F5) := Lib.hid ⟨hfs5, fun k hk => Nat.le_trans h5s (hF5 k hk).1, H5.below.trans (hb5.mono h5s)⟩
  clear hk5 hfs5 hF5 hb5 h5s H4
  go_wp2_with fail
  refine (read_any w5 p' _ _ H5.out.fs _ (by decide) (by decide)).mono ?_
  rintro e w6 ⟨hb6, hr⟩
  replace hr : ∃ u, e = .returned (.tuple #[u, .int .i64 0]) ∧ Par.Own w6 w5.heap.size 5 u (byteCells [97, 98, 99, 100]) := hr
  obtain ⟨u, rfl, hu⟩ := hr
  have H6 : Hid (Held w.heap.size w w6 p' ⟨-1, [⟨logN, [97, 98, 99, 100], 4⟩]⟩ F5) := Lib.hid (H5.out.go (Nat.le_refl _) hb6)
  have hcv := conv_seg (Own.seg hu)
  obtain ⟨A, c, rfl⟩ := hu.form
  clear hu H5 hb6
  go_wp2_with fail
  refine (names_any w6 p' _ _ H6.out.fs (by decide) (by decide)).mono ?_
  rintro e w7 ⟨v, rfl, hv, hb7⟩
  clear hcv
  have H7 : Hid (Held w.heap.size w w7 p' ⟨-1, [⟨logN, [97, 98, 99, 100], 4⟩]⟩ F5) := Lib.hid (H6.out.go (Nat.le_refl _) hb7)
  replace hv : Par.Own w7 w6.heap.size 9 v (strs [logN]) := hv
  have hv8 := Own.seg (hv.alloc (.cells #[.string ⟨#[108, 111, 103]⟩] 9))
  have hn8 := (SegS.new (w := w7) (F := fun _ => False) (fun k hk => hk.elim) (strs [logN]) #[.string ⟨#[108, 111, 103]⟩] rfl 1 rfl (by decide) 9 (0, 0) w7.heap.size rfl).out
  have H8 := Lib.hid (H7.out.go (Nat.le_refl _) ((Below.refl _ w7).alloc (Nat.le_refl _) (.cells #[.string ⟨#[108, 111, 103]⟩] 9)))
  obtain ⟨A', c', rfl⟩ := hv.form
  have HV := Lib.hid hv8; have HN := Lib.hid hn8
  clear hv hb7 hv8 hn8 H6 H7
  go_wp2_with fail
  refine (sameTexts_any _ _ [logN] [logN] _ _ HV.out HN.out).mono ?_
  rintro e w9 ⟨rfl, n9, rfl⟩
  go_wp2
  go_ret
  exact ⟨rfl, ⟨H8.out.below.os, H8.out.below.tape, H8.out.below.output, H8.out.below.size, H8.out.below.block⟩⟩
end Go.Proofs.Ytpdelgjfamelfaa
