/- Merged of V16 V17 VP V18 V19 VA V20 V21 V22 V23 V24 V25 V26 V27. -/
import Derived.Test.YtpdelgjfamelfaaM2
import Derived.Lib.SmallJoins
import Derived.Lib.SlBytesConst
import Derived.HandedShaped
import Derived.Deep.RegionWith
/- V16 -/
namespace Go.Proofs.Ytpdelgjfamelfaa
open Go.RowKit Go.Par Go.Vfs
set_option linter.unusedVariables false

theorem intE : Elem Try.prog 30 3 (.int .i64 0) := elem_of (b := 8) Try.underlying30 (by kernel_rfl) (by decide) rfl

set_option maxHeartbeats 400000 in
theorem sameInts_any (u v : Value) (xs ys : List Int) (B : Nat) (w : World) (hu : Seg w B u (ints xs)) (hv : Seg w B v (ints ys)) :
    Calls Try.prog 30 #[u, v] w fun e w' => e = .returned (.bool (decide (xs = ys))) ∧ ∃ n, w' = w.drewN n := by
  obtain ⟨A, c, rfl, hc, hm, ha⟩ := hu.open_ints
  obtain ⟨A', c', rfl, hc', hm', ha'⟩ := hv.open_ints
  clear hu hv
  by_cases hl : xs.length = ys.length
  · have hne : ((xs.length : Int) != (ys.length : Int)) = false := by simp [hl]
    have Hl := Lib.hid hl
    clear hl
    go_enter Try.func30, Try.ntmps30
    go_wp2
    go_loopw [5] (fun i wr => ∃ k n : Nat, k ≤ xs.length ∧ i = .int .i64 k ∧ Agree k xs ys ∧ wr = w.drewN n) (fun i _ => xs.length - (intOf i).toNat)
    case atStart => exact ⟨0, 0, by omega, rfl, Agree.zero _ _, rfl⟩
    case round =>
      obtain ⟨k, n, hk, rfl, hal, rfl⟩ := hrel
      by_cases hlt : k < xs.length
      · have hlt' : k < ys.length := by have := Hl.out; omega
        obtain ⟨b, off, x, rfl, hb, hc1, Hx⟩ := ha.int hlt
        obtain ⟨b', off', y, rfl, hb', hc2, Hy⟩ := ha'.int hlt'
        have HA := Lib.hid ha; clear ha
        have HA' := Lib.hid ha'; clear ha'
        by_cases he : x = y
        · have hbe : (x != y) = false := by simp [he]
          have He := Lib.hid he
          clear he
          go_wp2
          go_quiet (fail)
          go_wp2
          go_roundw
          case rel => exact ⟨k + 1, _, by omega, by go_num, hal.step hlt hlt' 0 (by rw [Hx.out, Hy.out, He.out]), rfl⟩
          case measure => simp [intOf]; omega
        · have hbe : (x != y) = true := by simp [he]
          have He := Lib.hid he
          clear he
          go_wp2
          go_quiet (fail)
          go_wp2
          go_ret
          refine ⟨ret_bool ?_, _, World.drewN_drewN _ _ _⟩
          have h1 := Hx.out
          have h2 := Hy.out
          have h3 := He.out
          simp
          rintro rfl
          exact h3 (h1.symm.trans h2)
      · have hkl : k = xs.length := by omega
        have Hk := Lib.hid hkl
        clear hkl
        go_wp2
        go_ret
        refine ⟨ret_bool ?_, _, rfl⟩
        rw [Hk.out] at hal
        simp [hal.whole Hl.out]
  · have hne : ((xs.length : Int) != (ys.length : Int)) = true := by simp; omega
    have Hl := Lib.hid hl
    clear hl
    go_enter Try.func30, Try.ntmps30
    go_wp2
    go_ret
    refine ⟨ret_bool ?_, 0, rfl⟩
    have := Hl.out
    simp
    rintro rfl
    exact this rfl
set_option maxHeartbeats 400000 in
theorem copyInts_any (v : Value) (zs : List Int) (B : Nat) (w : World) (hsg : Seg w B v (ints zs)) (hB : B ≤ w.heap.size) (hl : zs.length ≤ 1000000) :
    Calls Try.prog 24 #[v] w fun e w' => ∃ u, e = .returned u ∧ Par.Own w' w.heap.size 3 u (ints zs) ∧ Below w.heap.size w w' := by
  have hown := Par.Own.new w w.heap.size 3 #[] [] rfl (Nat.le_refl _) (by simp)
  have hb0 : Below w.heap.size w (w.alloc (.cells #[] 3)) := (Below.refl _ w).alloc (Nat.le_refl _) _
  have hsg1 := hsg.below (hb0.mono hB)
  clear hsg
  go_enter Try.func24, Try.ntmps24
  go_wp2_with (at_builtin; refine wpList_app _ rfl _ _ _ rfl w.heap.size 3 _ intE _ _ rfl hown _ v _ rfl hsg1 (one_ints _) ?c1 ?c2 ?_)
  case c1 => rw [ints_length]; simp only [List.length_nil]; omega
  case c2 => first | omega | (simp; done) | (simp; omega)
  intro v3 w3 hown4 hg3 hat3
  go_wp2
  go_ret
  exact ⟨_, rfl, by simpa using hown4, below_app hb0 hown hg3 (by simp)⟩

set_option maxHeartbeats 400000 in
theorem copyBytes_any (v : Value) (l : List UInt8) (B : Nat) (w : World) (hsg : Seg w B v (Lib.byteCells l)) (hB : B ≤ w.heap.size) (hl : l.length ≤ 1000000) :
    Calls Try.prog 16 #[v] w fun e w' => ∃ u, e = .returned u ∧ Par.Own w' w.heap.size 5 u (Lib.byteCells l) ∧ Below w.heap.size w w' := by
  have hown := Par.Own.new w w.heap.size 5 #[] [] rfl (Nat.le_refl _) (by simp)
  have hb0 : Below w.heap.size w (w.alloc (.cells #[] 5)) := (Below.refl _ w).alloc (Nat.le_refl _) _
  have hsg1 := hsg.below (hb0.mono hB)
  clear hsg
  go_enter Try.func16, Try.ntmps16
  go_wp2_with (at_builtin; refine wpList_app _ rfl _ _ _ rfl w.heap.size 5 _ byteE _ _ rfl hown _ v _ rfl hsg1 (one_bytes _) ?c1 ?c2 ?_)
  case c1 => rw [Lib.byteCells_length]; simp only [List.length_nil]; omega
  case c2 => first | omega | (simp; done) | (simp; omega)
  intro v3 w3 hown4 hg3 hat3
  go_wp2
  go_ret
  exact ⟨_, rfl, by simpa using hown4, below_app hb0 hown hg3 (by simp)⟩

set_option maxHeartbeats 400000 in
theorem sameBytes_any (u v : Value) (xs ys : List UInt8) (B : Nat) (w : World) (hu : Seg w B u (Lib.byteCells xs)) (hv : Seg w B v (Lib.byteCells ys)) :
    Calls Try.prog 20 #[u, v] w fun e w' => e = .returned (.bool (decide (xs = ys))) ∧ ∃ n, w' = w.drewN n := by
  obtain ⟨A, c, rfl, hc, hm, ha⟩ := hu.open_bytes
  obtain ⟨A', c', rfl, hc', hm', ha'⟩ := hv.open_bytes
  clear hu hv
  by_cases hl : xs.length = ys.length
  · have hne : ((xs.length : Int) != (ys.length : Int)) = false := by simp [hl]
    have Hl := Lib.hid hl
    clear hl
    go_enter Try.func20, Try.ntmps20
    go_wp2
    go_loopw [5] (fun i wr => ∃ k n : Nat, k ≤ xs.length ∧ i = .int .i64 k ∧ Agree k xs ys ∧ wr = w.drewN n) (fun i _ => xs.length - (intOf i).toNat)
    case atStart => exact ⟨0, 0, by omega, rfl, Agree.zero _ _, rfl⟩
    case round =>
      obtain ⟨k, n, hk, rfl, hal, rfl⟩ := hrel
      by_cases hlt : k < xs.length
      · have hlt' : k < ys.length := by have := Hl.out; omega
        obtain ⟨b, off, x, rfl, hb, hc1, hx, Hx⟩ := ha.byte hlt
        obtain ⟨b', off', y, rfl, hb', hc2, hy, Hy⟩ := ha'.byte hlt'
        have HA := Lib.hid ha; clear ha
        have HA' := Lib.hid ha'; clear ha'
        by_cases he : x = y
        · have hbe : ((x : Int) != (y : Int)) = false := by simp [he]
          have He := Lib.hid he
          clear he
          go_wp2
          go_quiet (fail)
          go_wp2
          go_roundw
          case rel => exact ⟨k + 1, _, by omega, by go_num, hal.step hlt hlt' 0 (UInt8.toNat_inj.1 (by rw [Hx.out, Hy.out, He.out])), rfl⟩
          case measure => simp [intOf]; omega
        · have hbe : ((x : Int) != (y : Int)) = true := by simp; omega
          have He := Lib.hid he
          clear he
          go_wp2
          go_quiet (fail)
          go_wp2
          go_ret
          refine ⟨ret_bool ?_, _, World.drewN_drewN _ _ _⟩
          have h1 := Hx.out
          have h2 := Hy.out
          have h3 := He.out
          simp
          rintro rfl
          exact h3 (h1.symm.trans h2)
      · have hkl : k = xs.length := by omega
        have Hk := Lib.hid hkl
        clear hkl
        go_wp2
        go_ret
        refine ⟨ret_bool ?_, _, rfl⟩
        rw [Hk.out] at hal
        simp [hal.whole Hl.out]
  · have hne : ((xs.length : Int) != (ys.length : Int)) = true := by simp; omega
    have Hl := Lib.hid hl
    clear hl
    go_enter Try.func20, Try.ntmps20
    go_wp2
    go_ret
    refine ⟨ret_bool ?_, 0, rfl⟩
    have := Hl.out
    simp
    rintro rfl
    exact this rfl

/- texts. -/
theorem Seg.open_strs {w : World} {B : Nat} {v : Value} {ls : List (List UInt8)} (h : Seg w B v (strs ls)) :
    ∃ A c, v = .slice A ls.length c ∧ ls.length ≤ c ∧ c ≤ 9223372036854775807 ∧ At w B A ls.length (fun i => .string ⟨(ls.getD i []).toArray⟩) := by
  obtain ⟨A, c, rfl, h2, h3, h4⟩ := h
  rw [strs_length] at h2 h4
  refine ⟨A, c, by rw [strs_length], h2, by simpa [maxLen] using h3, fun i hi => ?_⟩
  obtain ⟨b, off, e, hb, hc⟩ := h4 (by omega)
  refine ⟨b, off, e, hb, (hc i hi).trans ?_⟩
  simp [strs, hi, List.getD_eq_getElem?_getD]
theorem At.str {w : World} {B n k : Nat} {A : Option Addr} {ls : List (List UInt8)} (h : At w B A n (fun i => .string ⟨(ls.getD i []).toArray⟩)) (hk : k < n) :
    ∃ b off x, A = some ⟨b, off, none⟩ ∧ b < B ∧ w.cell? ⟨b, off + k, none⟩ = some (.string ⟨x.toArray⟩) ∧ Hid (ls.getD k [] = x) := by
  obtain ⟨b, off, e, hb, hc⟩ := h k hk
  exact ⟨b, off, _, e, hb, hc, Lib.hid rfl⟩
set_option maxHeartbeats 400000 in
theorem sameTexts_any (u v : Value) (xs ys : List (List UInt8)) (B : Nat) (w : World) (hu : Seg w B u (strs xs)) (hv : Seg w B v (strs ys)) :
    Calls Try.prog 32 #[u, v] w fun e w' => e = .returned (.bool (decide (xs = ys))) ∧ ∃ n, w' = w.drewN n := by
  obtain ⟨A, c, rfl, hc, hm, ha⟩ := Seg.open_strs hu
  obtain ⟨A', c', rfl, hc', hm', ha'⟩ := Seg.open_strs hv
  clear hu hv
  by_cases hl : xs.length = ys.length
  · have hne : ((xs.length : Int) != (ys.length : Int)) = false := by simp [hl]
    have Hl := Lib.hid hl
    clear hl
    go_enter Try.func32, Try.ntmps32
    go_wp2
    go_loopw [5] (fun i wr => ∃ k n : Nat, k ≤ xs.length ∧ i = .int .i64 k ∧ Agree k xs ys ∧ wr = w.drewN n) (fun i _ => xs.length - (intOf i).toNat)
    case atStart => exact ⟨0, 0, by omega, rfl, Agree.zero _ _, rfl⟩
    case round =>
      obtain ⟨k, n, hk, rfl, hal, rfl⟩ := hrel
      by_cases hlt : k < xs.length
      · have hlt' : k < ys.length := by have := Hl.out; omega
        obtain ⟨b, off, x, rfl, hb, hc1, Hx⟩ := At.str ha hlt
        obtain ⟨b', off', y, rfl, hb', hc2, Hy⟩ := At.str ha' hlt'
        have HA := Lib.hid ha; clear ha
        have HA' := Lib.hid ha'; clear ha'
        by_cases he : x = y
        · subst he
          go_wp2
          go_quiet (fail)
          go_wp2
          go_roundw
          case rel => exact ⟨k + 1, _, by omega, by go_num, hal.step hlt hlt' [] (by rw [Hx.out, Hy.out]), rfl⟩
          case measure => simp [intOf]; omega
        · have hbe : (x == y) = false := beq_eq_false_iff_ne.2 he
          have hbn : (!x == y) = true := by rw [hbe]; rfl
          have He := Lib.hid he
          clear he
          go_wp2
          go_quiet (fail)
          go_wp2
          go_ret
          refine ⟨ret_bool ?_, _, World.drewN_drewN _ _ _⟩
          have h1 := Hx.out
          have h2 := Hy.out
          have h3 := He.out
          simp
          rintro rfl
          exact h3 (h1.symm.trans h2)
      · have hkl : k = xs.length := by omega
        have Hk := Lib.hid hkl
        clear hkl
        go_wp2
        go_ret
        refine ⟨ret_bool ?_, _, rfl⟩
        rw [Hk.out] at hal
        simp [hal.whole Hl.out]
  · have hne : ((xs.length : Int) != (ys.length : Int)) = true := by simp; omega
    have Hl := Lib.hid hl
    clear hl
    go_enter Try.func32, Try.ntmps32
    go_wp2
    go_ret
    refine ⟨ret_bool ?_, 0, rfl⟩
    have := Hl.out
    simp
    rintro rfl
    exact this rfl
end Go.Proofs.Ytpdelgjfamelfaa
/- V17 -/
namespace Go.Proofs.Ytpdelgjfamelfaa
open Go.RowKit Go.Lib Go.Vfs Go.Par
set_option linter.unusedVariables false

/- rows that a statement has just laid. -/
theorem SegS.new {w : World} {F : Nat → Prop} (hF : ∀ k, F k → k < w.heap.size) (xs : List Value) (cs : Array Value) (hcs : cs = xs.toArray) (n : Nat) (hn : xs.length = n) (hm : n ≤ maxLen) (t : TypeId) (fr : Nat × Nat) (g : Nat) (hg : g = w.heap.size) :
    SegS (Out (w.alloc (.cells cs t fr)) F) (w.alloc (.cells cs t fr)) (.slice (some ⟨g, 0, none⟩) n n) xs := by
  subst hcs hn hg
  refine ⟨_, _, rfl, Nat.le_refl _, hm, fun _ => ⟨_, _, rfl, ⟨by simp, fun h => by have := hF _ h; omega⟩, fun i hi => ?_⟩⟩
  rw [World.cell?_alloc_mark]
  simp
theorem SegS.alloc {w : World} {F : Nat → Prop} {v : Value} {xs : List Value} (h : SegS (Out w F) w v xs) (o : Obj) : SegS (Out (w.alloc o) F) (w.alloc o) v xs := h.below ((Below.refl _ w).alloc (Nat.le_refl _) _)
theorem Fsy.below {w w' : World} {p : Nat} {st : St} {F : Nat → Prop} (h : Fsy w p st F) (hb : Below w.heap.size w w') : Fsy w' p st F := h.keep fun k hk => hb.block k (h.lt k hk)
theorem Fsy.alloc {w : World} {p : Nat} {st : St} {F : Nat → Prop} (h : Fsy w p st F) (o : Obj) : Fsy (w.alloc o) p st F := h.below ((Below.refl _ w).alloc (Nat.le_refl _) _)
theorem RowsAt.new1 {w : World} {F : Nat → Prop} (hF : ∀ k, F k → k < w.heap.size) {v : Value} {l : List UInt8} (h : SegS (Out w F) w v (byteCells l)) (g : Nat) (hg : g = w.heap.size) :
    RowsAt (Out (w.alloc (.cells #[v] 22)) F) (w.alloc (.cells #[v] 22)) (.slice (some ⟨g, 0, none⟩) 1 1) [l] :=
  ⟨[v], rfl, SegS.new hF [v] #[v] rfl 1 rfl (by decide) _ _ g hg, fun i hi => by
    obtain rfl : i = 0 := by simp at hi; omega
    exact SegS.alloc h _⟩
theorem RowsAt.new2 {w : World} {F : Nat → Prop} (hF : ∀ k, F k → k < w.heap.size) {v v' : Value} {l l' : List UInt8} (h : SegS (Out w F) w v (byteCells l)) (h' : SegS (Out w F) w v' (byteCells l')) (g : Nat) (hg : g = w.heap.size) :
    RowsAt (Out (w.alloc (.cells #[v, v'] 22)) F) (w.alloc (.cells #[v, v'] 22)) (.slice (some ⟨g, 0, none⟩) 2 2) [l, l'] :=
  ⟨[v, v'], rfl, SegS.new hF [v, v'] #[v, v'] rfl 2 rfl (by decide) _ _ g hg, fun i hi => by
    rcases i with _ | _ | i
    · exact SegS.alloc h _
    · exact SegS.alloc h' _
    · simp at hi; omega⟩

/-- a file system whose blocks are new since B, in a world that leaves what lay below B. -/
structure Held (B : Nat) (w0 w : World) (p : Nat) (st : St) (F : Nat → Prop) : Prop where
  fs : Fsy w p st F
  new : ∀ k, F k → B ≤ k
  below : Below B w0 w
theorem Held.op {B : Nat} {w0 w w' : World} {p : Nat} {st : St} {F F' : Nat → Prop} (h : Held B w0 w p st F) (hB : B ≤ w0.heap.size) {st' : St} (h1 : Fsy w' p st' F') (h2 : Kept F w w') (h3 : Grows w F F') : Held B w0 w' p st' F' := by
  have hs : B ≤ w.heap.size := Nat.le_trans hB h.below.size
  exact ⟨h1, fun k hk => by rcases h3 k hk with a | a; exact h.new k a; omega, h.below.trans (h2.below hs h.new)⟩
theorem Held.go {B : Nat} {w0 w w' : World} {p : Nat} {st : St} {F : Nat → Prop} (h : Held B w0 w p st F) (hB : B ≤ w0.heap.size) (hb : Below w.heap.size w w') : Held B w0 w' p st F :=
  ⟨h.fs.below hb, h.new, h.below.trans (hb.mono (Nat.le_trans hB h.below.size))⟩

theorem Held.size {B : Nat} {w0 w : World} {p : Nat} {st : St} {F : Nat → Prop} (h : Held B w0 w p st F) (hB : B ≤ w0.heap.size) : B ≤ w.heap.size := Nat.le_trans hB h.below.size
theorem Held.append {B : Nat} {w0 w : World} {p : Nat} {st : St} {F : Nat → Prop} (h : Held B w0 w p st F) (hB : B ≤ w0.heap.size) {s : ByteArray} (hs : s.size ≤ 9223372036854775807) {v : Value} {ls : List (List UInt8)} (hp : RowsAt (Out w F) w v ls) (hm : Modest st ls.flatten.length) :
    Calls Try.prog 17 #[.pointer (some ⟨p, 0, none⟩), .string s, v] w fun e w' => ∃ F', e = .returned (.int .i64 (stAppend st s.data.toList ls.flatten).2) ∧ Held B w0 w' p (stAppend st s.data.toList ls.flatten).1 F' ∧ Kept F w w' ∧ Grows w F F' := by
  refine (append_any w p st F h.fs s hs v ls hp hm).mono ?_
  rintro e w' ⟨F', h1, h2, h3, h4⟩
  exact ⟨F', h1, h.op hB h2 h3 h4, h3, h4⟩
theorem Held.sync {B : Nat} {w0 w : World} {p : Nat} {st : St} {F : Nat → Prop} (h : Held B w0 w p st F) (hB : B ≤ w0.heap.size) {s : ByteArray} (hs : s.size ≤ 9223372036854775807) (hpw : st.power ≤ 9223372036854775807) :
    Calls Try.prog 31 #[.pointer (some ⟨p, 0, none⟩), .string s] w fun e w' => ∃ F', e = .returned (.int .i64 (stSync st s.data.toList).2) ∧ Held B w0 w' p (stSync st s.data.toList).1 F' ∧ Kept F w w' ∧ Grows w F F' := by
  refine (sync_any w p st F h.fs s hs hpw).mono ?_
  rintro e w' ⟨F', h1, h2, h3, h4⟩
  exact ⟨F', h1, h.op hB h2 h3 h4, h3, h4⟩

/-- 'string(b)' -/
theorem conv_seg {w : World} {B : Nat} {v : Value} {l : List UInt8} (h : Seg w B v (Lib.byteCells l)) : (convert 22 9 v).run Try.prog w = .ok (.string ⟨l.toArray⟩) w := by
  obtain ⟨A, c, rfl, hc, hm, hat⟩ := h
  rw [Lib.byteCells_length] at hat ⊢
  rcases A with _ | a
  · have h0 : l.length = 0 := by
      rcases Nat.eq_zero_or_pos l.length with h | h
      · exact h
      · obtain ⟨_, _, e, _⟩ := hat h; cases e
    have : l = [] := List.eq_nil_of_length_eq_zero h0
    subst this
    rw [List.length_nil, run_convert_bytes_string _ 22 9 5 none 0 c Try.underlying22 Try.underlying5 Try.underlying9]
    rfl
  · refine run_convert_bytes_back (P := Try.prog) w 22 9 5 a c l Try.underlying22 Try.underlying5 Try.underlying9 (fun j hj => ?_)
    obtain ⟨b, off, e, _, hcell⟩ := hat (by omega)
    cases e
    rw [add_addr, hcell j hj]
    simp [Lib.byteCells, hj]

def logN : List UInt8 := [108, 111, 103]
theorem al1 : stAppend ⟨-1, []⟩ logN [97, 98, 99] = (⟨-1, [⟨logN, [97, 98, 99], 0⟩]⟩, 0) := by rfl
theorem al2 : stSync ⟨-1, [⟨logN, [97, 98, 99], 0⟩]⟩ logN = (⟨-1, [⟨logN, [97, 98, 99], 3⟩]⟩, 0) := by rfl
theorem al3 : stAppend ⟨-1, [⟨logN, [97, 98, 99], 3⟩]⟩ logN [100, 101] = (⟨-1, [⟨logN, [97, 98, 99, 100, 101], 3⟩]⟩, 0) := by rfl
theorem al4 : stCrash ⟨-1, [⟨logN, [97, 98, 99, 100, 101], 3⟩]⟩ [1] (-1) = ⟨-1, [⟨logN, [97, 98, 99, 100], 4⟩]⟩ := by rfl
theorem al5 : stFind ⟨-1, [⟨logN, [97, 98, 99, 100], 4⟩]⟩ logN = .ok ⟨logN, [97, 98, 99, 100], 4⟩ := by rfl

set_option maxRecDepth 20000 in
set_option maxHeartbeats 1000000 in
theorem alive_any (w : World) : Calls Try.prog 14 #[] w fun e w' => e = .returned (.bool true) ∧ Below w.heap.size w w' := by
  go_enter Try.func14, Try.ntmps14
  go_wp2_with fail
  refine (new_fs (-1) w).mono ?_
  rintro e w1 ⟨p, F, rfl, hfs, hF, hb1⟩
  have H1 : Hid (Held w.heap.size w w1 p ⟨-1, []⟩ F) := Lib.hid ⟨hfs, fun k hk => (hF k hk).1, hb1⟩
  clear hfs hF hb1
  have kc := fun (w : World) (C : Array Value) (n c g : Nat) (hg : g = w.heap.size) => _root_.Go.Joins.run_convert_bytes_const_at (P := Try.prog) w 22 5 C n c g hg Try.underlying22 Try.underlying5
  have k1 := kc w1 #[.int .u8 97, .int .u8 98] 2 2 _ rfl
  have k2 := kc (w1.alloc (.cells #[.int .u8 97, .int .u8 98] 5 (2, 3))) #[.int .u8 99] 1 1 (w1.heap.size + 1) (by simp)
  have KC := Lib.hid kc; clear kc
  simp only [List.size_toArray, List.length_cons, List.length_nil, Nat.reduceAdd] at k1 k2
  go_wp2_with fail
  have hr1 : RowsAt (Out _ F) _ _ [[97, 98], [99]] := RowsAt.new2 (w := (w1.alloc (.cells #[.int .u8 97, .int .u8 98] 5 (2, 3))).alloc (.cells #[.int .u8 99] 5 (1, 2))) (F := F) (fun k hk => by have := H1.out.fs.lt k hk; simp; omega)
    (SegS.alloc (SegS.new (fun k hk => H1.out.fs.lt k hk) (byteCells [97, 98]) _ rfl 2 rfl (by decide) _ _ w1.heap.size rfl) _) (SegS.new (fun k hk => by have := H1.out.fs.lt k hk; simp; omega) (byteCells [99]) _ rfl 1 rfl (by decide) _ _ (w1.heap.size + 1) (by simp)) (w1.heap.size + 1 + 1) (by simp)
  have H2 := (H1.out.go (Nat.le_refl _) (((Below.refl _ w1).alloc (Nat.le_refl _) (.cells #[.int .u8 97, .int .u8 98] 5 (2, 3))).alloc (by simp) (.cells #[.int .u8 99] 5 (1, 2)))).go (Nat.le_refl _) ((Below.refl _ _).alloc (Nat.le_refl _) (.cells #[.slice (some ⟨w1.heap.size, 0, none⟩) 2 2, .slice (some ⟨w1.heap.size + 1, 0, none⟩) 1 1] 22))
  refine (H2.append (Nat.le_refl _) (by decide) hr1 ⟨by simp, by decide, by simp, by decide⟩).mono ?_
  clear hr1 H2 H1 k1 k2
  rintro e w2 ⟨F2, he, H2, -, -⟩
  replace he : e = .returned (.int .i64 0) := he
  subst he
  replace H2 : Hid (Held w.heap.size w w2 p ⟨-1, [⟨logN, [97, 98, 99], 0⟩]⟩ F2) := Lib.hid H2
  go_wp2_with fail
  refine (H2.out.sync (Nat.le_refl _) (by decide) (by decide)).mono ?_
  clear H2
  rintro e w3 ⟨F3, he, H3, -, -⟩
  replace he : e = .returned (.int .i64 0) := he
  subst he
  replace H3 : Hid (Held w.heap.size w w3 p ⟨-1, [⟨logN, [97, 98, 99], 3⟩]⟩ F3) := Lib.hid H3
  have k3 := KC.out w3 #[.int .u8 100, .int .u8 101] 2 2 _ rfl
  simp only [List.size_toArray, List.length_cons, List.length_nil, Nat.reduceAdd] at k3
  go_wp2_with fail
  have hr3 : RowsAt (Out _ F3) _ _ [[100, 101]] := RowsAt.new1 (w := w3.alloc (.cells #[.int .u8 100, .int .u8 101] 5 (2, 3))) (F := F3) (fun k hk => by have := H3.out.fs.lt k hk; simp; omega)
    (SegS.new (fun k hk => H3.out.fs.lt k hk) (byteCells [100, 101]) _ rfl 2 rfl (by decide) _ _ w3.heap.size rfl) (w3.heap.size + 1) (by simp)
  have H4 := (H3.out.go (Nat.le_refl _) ((Below.refl _ w3).alloc (Nat.le_refl _) (.cells #[.int .u8 100, .int .u8 101] 5 (2, 3)))).go (Nat.le_refl _) ((Below.refl _ _).alloc (Nat.le_refl _) (.cells #[.slice (some ⟨w3.heap.size, 0, none⟩) 2 2] 22))
  refine (H4.append (Nat.le_refl _) (by decide) hr3 ⟨by simp, by decide, by simp, by decide⟩).mono ?_
  clear hr3 H4 H3 k3
  rintro e w4 ⟨F4, he, H4, -, -⟩
  replace he : e = .returned (.int .i64 0) := he
  subst he
  replace H4 : Hid (Held w.heap.size w w4 p ⟨-1, [⟨logN, [97, 98, 99, 100, 101], 3⟩]⟩ F4) := Lib.hid H4
  go_wp2_with fail
  have H5 := H4.out.go (Nat.le_refl _) ((Below.refl _ w4).alloc (Nat.le_refl _) (.cells #[.int .i64 1] 3))
  have hk5 := (SegS.new (w := w4) (F := fun _ => False) (fun k hk => hk.elim) (ints [1]) #[.int .i64 1] rfl 1 rfl (by decide) 3 (0, 0) w4.heap.size rfl).out
  refine (crash_any _ p _ _ H5.fs (by decide) (by decide) (by decide) _ [1] hk5 (-1)).mono ?_
  rintro e w5 ⟨p', F5, rfl, hfs5, hF5, hb5⟩
  have h5s := H5.size (Nat.le_refl _)
  replace H5 : Hid (Held w.heap.size w w5 p' ⟨-1, [⟨logN, [97, 98, 99, 100], 4⟩]⟩ F5) := Lib.hid ⟨hfs5, fun k hk => Nat.le_trans h5s (hF5 k hk).1, H5.below.trans (hb5.mono h5s)⟩
  clear hk5 hfs5 hF5 hb5 h5s H4
  go_wp2_with fail
  refine (read_any w5 p' _ _ H5.out.fs _ (by decide) (by decide)).mono ?_
  rintro e w6 ⟨hb6, hr⟩
  replace hr : ∃ u, e = .returned (.tuple #[u, .int .i64 0]) ∧ Par.Own w6 w5.heap.size 5 u (byteCells [97, 98, 99, 100]) := hr
  obtain ⟨u, rfl, hu⟩ := hr
  have H6 : Hid (Held w.heap.size w w6 p' ⟨-1, [⟨logN, [97, 98, 99, 100], 4⟩]⟩ F5) := Lib.hid (H5.out.go (Nat.le_refl _) hb6)
  have hcv := conv_seg (Own.seg hu)
  obtain ⟨A, c, rfl⟩ := hu.form
  clear hu H5 hb6
  go_wp2_with fail
  refine (names_any w6 p' _ _ H6.out.fs (by decide) (by decide)).mono ?_
  rintro e w7 ⟨v, rfl, hv, hb7⟩
  clear hcv
  have H7 : Hid (Held w.heap.size w w7 p' ⟨-1, [⟨logN, [97, 98, 99, 100], 4⟩]⟩ F5) := Lib.hid (H6.out.go (Nat.le_refl _) hb7)
  replace hv : Par.Own w7 w6.heap.size 9 v (strs [logN]) := hv
  have hv8 := Own.seg (hv.alloc (.cells #[.string ⟨#[108, 111, 103]⟩] 9))
  have hn8 := (SegS.new (w := w7) (F := fun _ => False) (fun k hk => hk.elim) (strs [logN]) #[.string ⟨#[108, 111, 103]⟩] rfl 1 rfl (by decide) 9 (0, 0) w7.heap.size rfl).out
  have H8 := Lib.hid (H7.out.go (Nat.le_refl _) ((Below.refl _ w7).alloc (Nat.le_refl _) (.cells #[.string ⟨#[108, 111, 103]⟩] 9)))
  obtain ⟨A', c', rfl⟩ := hv.form
  have HV := Lib.hid hv8; have HN := Lib.hid hn8
  clear hv hb7 hv8 hn8 H6 H7
  go_wp2_with fail
  refine (sameTexts_any _ _ [logN] [logN] _ _ HV.out HN.out).mono ?_
  rintro e w9 ⟨rfl, n9, rfl⟩
  go_wp2
  go_ret
  exact ⟨rfl, ⟨H8.out.below.os, H8.out.below.tape, H8.out.below.output, H8.out.below.size, H8.out.below.block⟩⟩
end Go.Proofs.Ytpdelgjfamelfaa
/- VP -/
namespace Go.Proofs.Ytpdelgjfamelfaa
open Go.RowKit Go.Lib Go.Vfs Go.Par
set_option linter.unusedVariables false

theorem findL_cons {α : Type} {key : α → List UInt8} (s : List UInt8) (y : α) (l : List α) : findL key s (y :: l) = if key y = s then some y else findL key s l := by
  unfold findL
  rw [List.find?_cons]
  by_cases h : key y = s
  · simp [h]
  · have : (key y == s) = false := beq_eq_false_iff_ne.2 h
    rw [this, if_neg h]
theorem findL_putL_ne {α : Type} {key : α → List UInt8} {s : List UInt8} {x : α} (h : key x ≠ s) : ∀ l : List α, findL key s (putL key x l) = findL key s l
  | [] => by simp [putL, findL, h]
  | y :: r => by
    unfold putL
    split
    · rw [findL_cons, if_neg h]
    · rw [findL_cons, findL_cons, findL_putL_ne h r]
theorem findL_putL_self {α : Type} {key : α → List UInt8} {x : α} : ∀ l : List α, (∀ y ∈ l, key y ≠ key x) → findL key (key x) (putL key x l) = some x
  | [], _ => by simp [putL, findL]
  | y :: r, h => by
    unfold putL
    split
    · rw [findL_cons, if_pos rfl]
    · rw [findL_cons, if_neg (h y (by simp)), findL_putL_self r (fun z hz => h z (by simp [hz]))]
theorem findL_dropL_ne {α : Type} {key : α → List UInt8} {s t : List UInt8} (h : s ≠ t) : ∀ l : List α, findL key s (dropL key t l) = findL key s l
  | [] => rfl
  | y :: r => by
    have ih := findL_dropL_ne h r (key := key)
    unfold dropL at ih ⊢
    rw [List.filter_cons]
    by_cases hy : key y = t
    · have : (!(key y == t)) = false := by simp [hy]
      rw [this, findL_cons, if_neg (show ¬ key y = s from fun e => h (e.symm.trans hy))]
      simpa using ih
    · have : (!(key y == t)) = true := by simp [hy]
      rw [this, if_pos rfl, findL_cons, findL_cons, ih]
theorem findL_dropL_self {α : Type} {key : α → List UInt8} (s : List UInt8) (l : List α) : findL key s (dropL key s l) = none := by
  unfold findL dropL
  rw [List.find?_eq_none]
  intro x hx
  simpa using (List.mem_filter.1 hx).2
theorem findL_withL_self {α : Type} {key : α → List UInt8} (x : α) (l : List α) : findL key (key x) (withL key x l) = some x :=
  findL_putL_self _ fun y hy => (mem_dropL.1 hy).2
theorem findL_withL_ne {α : Type} {key : α → List UInt8} {x : α} {s : List UInt8} (h : key x ≠ s) (l : List α) : findL key s (withL key x l) = findL key s l := by
  unfold withL
  rw [findL_putL_ne h, findL_dropL_ne (fun e => h e.symm)]

theorem stFind_of {st : St} {s : List UInt8} {f : File} (hn : nameB s = true) (h : findL File.name s st.files = some f) : stFind st s = .ok f := by unfold stFind; rw [hn, h]; rfl
theorem stFind_none {st : St} {s : List UInt8} (hn : nameB s = true) (h : findL File.name s st.files = none) : stFind st s = .error 11 := by unfold stFind; rw [hn, h]; rfl
theorem stAppend_no {st : St} {s L : List UInt8} (h : nameB s = false) : stAppend st s L = (st, 10) := by unfold stAppend; rw [h]; rfl
theorem stAppend_yes {st : St} {s L : List UInt8} (h : nameB s = true) (hp : st.power = -1) : stAppend st s L = (⟨-1, appF s L st.files⟩, 0) := by
  unfold stAppend doSt; rw [h, hp]; rfl
theorem name_len {s : List UInt8} (h : nameB s = true) : s.length ≤ 32 := by
  unfold nameB at h
  simp at h
  exact h.1.2
theorem Held.rename {B : Nat} {w0 w : World} {p : Nat} {st : St} {F : Nat → Prop} (h : Held B w0 w p st F) (hB : B ≤ w0.heap.size) {a b : ByteArray} (ha : a.size ≤ 9223372036854775807) (hb : b.size ≤ 9223372036854775807) (hpw : st.power ≤ 9223372036854775807) (hfl : st.files.length < 2147483648) :
    Calls Try.prog 21 #[.pointer (some ⟨p, 0, none⟩), .string a, .string b] w fun e w' => ∃ F', e = .returned (.int .i64 (stRename st a.data.toList b.data.toList).2) ∧ Held B w0 w' p (stRename st a.data.toList b.data.toList).1 F' ∧ Kept F w w' ∧ Grows w F F' := by
  refine (rename_any w p st F h.fs a b ha hb hpw hfl).mono ?_
  rintro e w' ⟨F', h1, h2, h3, h4⟩
  exact ⟨F', h1, h.op hB h2 h3 h4, h3, h4⟩

/- the two files of VfsRename. -/
def st2 (a c x y : List UInt8) : St := ⟨-1, appF c y [⟨a, x, 0⟩]⟩
theorem st2_a {a c x y : List UInt8} (ha : nameB a = true) : ∃ f, stFind (st2 a c x y) a = .ok f ∧ f.data.length ≤ x.length + y.length := by
  by_cases h : c = a
  · subst h
    refine ⟨⟨c, x ++ y, 0⟩, stFind_of ha ?_, by simp⟩
    have e : findL File.name c [⟨c, x, 0⟩] = some ⟨c, x, 0⟩ := by rw [findL_cons, if_pos rfl]
    unfold st2 appF
    rw [e]
    exact findL_withL_self (key := File.name) ⟨c, x ++ y, 0⟩ _
  · refine ⟨⟨a, x, 0⟩, stFind_of ha ?_, by simp⟩
    have e : findL File.name c [⟨a, x, 0⟩] = none := by rw [findL_cons, if_neg (fun e => h e.symm)]; rfl
    unfold st2 appF
    rw [e]
    refine (findL_withL_ne (key := File.name) (x := ⟨c, y, 0⟩) h _).trans ?_
    rw [findL_cons, if_pos rfl]
theorem st2_c {a c x y : List UInt8} (h : c ≠ a) : findL File.name c (st2 a c x y).files = some ⟨c, y, 0⟩ := by
  have e : findL File.name c [⟨a, x, 0⟩] = none := by rw [findL_cons, if_neg (fun e => h e.symm)]; rfl
  unfold st2 appF
  rw [e]
  exact findL_withL_self (key := File.name) ⟨c, y, 0⟩ _
theorem length_putL' {α : Type} {key : α → List UInt8} (x : α) : ∀ l : List α, (putL key x l).length = l.length + 1
  | [] => rfl
  | y :: r => by unfold putL; split <;> simp [length_putL' x r]
theorem length_withL' {α : Type} {key : α → List UInt8} (x : α) (l : List α) : (withL key x l).length ≤ l.length + 1 := by
  unfold withL
  rw [length_putL']
  have : (dropL key (key x) l).length ≤ l.length := List.length_filter_le _ _
  omega
theorem st2_len (a c x y : List UInt8) : (st2 a c x y).files.length ≤ 2 := length_withL' _ _
theorem st2_data (a c x y : List UInt8) : ∀ f ∈ (st2 a c x y).files, f.data.length ≤ x.length + y.length := by
  intro f hf
  unfold st2 appF at hf
  rcases mem_withL.1 hf with h | ⟨h, _⟩
  · subst h
    rw [findL_cons]
    by_cases e : a = c
    · simp [e]
    · simp [e, findL]
  · simp at h
    subst h
    simp
def st3 (st : St) (a b : List UInt8) (f : File) : St := ⟨-1, withL File.name ⟨b, f.data, f.safe⟩ (dropL File.name a st.files)⟩
theorem st3_data {st : St} {a b : List UInt8} {f : File} {n : Nat} (h : ∀ g ∈ st.files, g.data.length ≤ n) (hf : f.data.length ≤ n) : ∀ g ∈ (st3 st a b f).files, g.data.length ≤ n := by
  intro g hg
  rcases mem_withL.1 hg with e | ⟨e, _⟩
  · subst e; exact hf
  · exact h g (mem_dropL.1 e).1
theorem st3_b {st : St} {a b : List UInt8} {f : File} (hb : nameB b = true) : stFind (st3 st a b f) b = .ok ⟨b, f.data, f.safe⟩ := stFind_of hb (findL_withL_self (key := File.name) ⟨b, f.data, f.safe⟩ _)
theorem st3_a {st : St} {a b : List UInt8} {f : File} (ha : nameB a = true) (h : a ≠ b) : stFind (st3 st a b f) a = .error 11 := stFind_none ha (by
  refine (findL_withL_ne (key := File.name) (x := ⟨b, f.data, f.safe⟩) (fun e => h e.symm) _).trans ?_
  exact findL_dropL_self _ _)
theorem st3_c {st : St} {a b c : List UInt8} {f g : File} (hc : nameB c = true) (h : c ≠ a) (h' : c ≠ b) (hg : findL File.name c st.files = some g) : stFind (st3 st a b f) c = .ok g := stFind_of hc (by
  refine (findL_withL_ne (key := File.name) (x := ⟨b, f.data, f.safe⟩) (fun e => h' e.symm) _).trans ?_
  rw [findL_dropL_ne h]
  exact hg)
end Go.Proofs.Ytpdelgjfamelfaa
/- V18 -/
namespace Go.Proofs.Ytpdelgjfamelfaa
open Go.RowKit Go.Lib Go.Vfs Go.Par
set_option linter.unusedVariables false

theorem below_drewN {n : Nat} {w w' : World} (h : Below n w w') (k : Nat) : Below n w (w'.drewN k) := ⟨h.os, h.tape, h.output, h.size, h.block⟩

theorem toL_ne {a b : ByteArray} (h : a ≠ b) : ¬ a.toList = b.toList := by
  rw [ByteArray.toList_eq, ByteArray.toList_eq]
  intro e
  apply h
  cases a; cases b
  simp only [ByteArray.mk.injEq]
  exact Array.ext' e
theorem dat_ne {a b : ByteArray} (h : a ≠ b) : a.data.toList ≠ b.data.toList := by
  have := toL_ne h
  rwa [ByteArray.toList_eq, ByteArray.toList_eq] at this

set_option maxRecDepth 20000 in
set_option maxHeartbeats 2000000 in
theorem vfsRename_walk (a : ByteArray) (ha : a.size ≤ 9223372036854775807) (b : ByteArray) (hb : b.size ≤ 9223372036854775807) (c : ByteArray) (hc : c.size ≤ 9223372036854775807)
    (vx : Value) (x : List UInt8) (hx : x.length ≤ 140737488351232) (vy : Value) (y : List UInt8) (hy : y.length ≤ 140737488351232) (W : World)
    (gx : Seg W W.heap.size vx (byteCells x)) (gy : Seg W W.heap.size vy (byteCells y)) :
    Calls Try.prog 4 #[.string a, .string b, .string c, vx, vy] W fun e W' => e = .returned (.bool true) ∧ Below W.heap.size W W' := by
  obtain ⟨A, ca, rfl, -⟩ := gx.open_bytes
  obtain ⟨A', ca', rfl, -⟩ := gy.open_bytes
  have GX := Lib.hid gx; have GY := Lib.hid gy; clear gx gy
  go_enter Try.func4, Try.ntmps4
  go_wp2_with fail
  refine (alive_any W).mono ?_
  rintro e w1 ⟨rfl, hb1⟩
  have HB1 := Lib.hid hb1; clear hb1
  go_wp2_with fail
  refine (new_fs (-1) w1).mono ?_
  rintro e w2 ⟨p, F2, rfl, hfs, hF, hb2⟩
  have hs1 := HB1.out.size
  have H2 : Hid (Held W.heap.size W w2 p ⟨-1, []⟩ F2) := Lib.hid ⟨hfs, fun k hk => Nat.le_trans hs1 (hF k hk).1, HB1.out.trans (hb2.mono hs1)⟩
  clear hfs hF hb2 HB1 hs1
  by_cases hlen : (x.length : Int) + y.length > 5000
  · go_wp2
    go_ret
    exact ⟨rfl, H2.out.below⟩
  have hle : x.length + y.length ≤ 5000 := by omega
  have HLE := Lib.hid hle; clear hle
  have hB : W.heap.size ≤ W.heap.size := Nat.le_refl _
  go_wp2_with fail
  have hs2 := H2.out.size hB
  refine (copyBytes_any _ x W.heap.size w2 (GX.out.below H2.out.below) hs2 (by have := HLE.out; omega)).mono ?_
  rintro e w3 ⟨u, rfl, hu, hb3⟩
  have H3 : Hid (Held W.heap.size W w3 p ⟨-1, []⟩ F2) := Lib.hid (H2.out.go hB hb3)
  have hus := Own.outS hu (fun k hk => H2.out.fs.lt k hk)
  obtain ⟨A3, c3, rfl⟩ := hu.form
  have hr3 := RowsAt.new1 (fun k hk => H3.out.fs.lt k hk) hus w3.heap.size rfl
  have HR3 := Lib.hid hr3; have H3' := Lib.hid (H3.out.go hB ((Below.refl _ w3).alloc (Nat.le_refl _) (.cells #[.slice A3 (byteCells x).length c3] 22)))
  clear hu hb3 hus hr3 H3 H2 hs2
  go_wp2_with fail
  refine (H3'.out.append hB ha HR3.out ⟨by simp, by have := HLE.out; simp; omega, by simp, by decide⟩).mono ?_
  rintro e w4 ⟨F4, rfl, H4, -, -⟩
  rw [show [x].flatten = x by simp] at H4 ⊢
  clear HR3 H3'
  obtain ⟨n4, st4, hn4, hcase⟩ : ∃ n4 st4, stAppend ⟨-1, []⟩ a.data.toList x = (st4, n4) ∧ ((n4 = 10 ∧ st4 = ⟨-1, []⟩) ∨ (n4 = 0 ∧ nameB a.data.toList = true ∧ st4 = ⟨-1, [⟨a.data.toList, x, 0⟩]⟩)) := by
    cases hna : nameB a.data.toList with
    | false => exact ⟨_, _, stAppend_no hna, .inl ⟨rfl, rfl⟩⟩
    | true => exact ⟨_, _, stAppend_yes hna rfl, .inr ⟨rfl, rfl, rfl⟩⟩
  rw [hn4] at H4 ⊢
  have HC4 := Lib.hid hcase
  have H4 := Lib.hid H4
  clear hcase hn4
  go_wp2_with fail
  have hs4 := H4.out.size hB
  refine (copyBytes_any _ y W.heap.size w4 (GY.out.below H4.out.below) hs4 (by have := HLE.out; omega)).mono ?_
  rintro e w5 ⟨u', rfl, hu, hb5⟩
  have H5 : Hid (Held W.heap.size W w5 p st4 F4) := Lib.hid (H4.out.go hB hb5)
  have hus := Own.outS hu (fun k hk => H4.out.fs.lt k hk)
  obtain ⟨A5, c5, rfl⟩ := hu.form
  have hr5 := RowsAt.new1 (fun k hk => H5.out.fs.lt k hk) hus w5.heap.size rfl
  have HR5 := Lib.hid hr5; have H5' := Lib.hid (H5.out.go hB ((Below.refl _ w5).alloc (Nat.le_refl _) (.cells #[.slice A5 (byteCells y).length c5] 22)))
  clear hu hb5 hus hr5 H5 H4 hs4
  go_wp2_with fail
  refine (H5'.out.append hB hc HR5.out ⟨by
      intro f hf
      rcases HC4.out with ⟨_, rfl⟩ | ⟨_, _, rfl⟩
      · cases hf
      · simp at hf; subst hf; have := HLE.out; simp; omega, by have := HLE.out; simp; omega, by rcases HC4.out with ⟨_, rfl⟩ | ⟨_, _, rfl⟩ <;> simp, by rcases HC4.out with ⟨_, rfl⟩ | ⟨_, _, rfl⟩ <;> simp⟩).mono ?_
  rintro e w6 ⟨F6, rfl, H6, -, -⟩
  rw [show [y].flatten = y by simp] at H6 ⊢
  clear HR5 H5'
  obtain ⟨n6, st6, hn6, hcase⟩ : ∃ n6 st6, stAppend st4 c.data.toList y = (st6, n6) ∧ (n6 = 10 ∨ (n6 = 0 ∧ nameB c.data.toList = true ∧ st6 = ⟨-1, appF c.data.toList y st4.files⟩)) := by
    cases hnc : nameB c.data.toList with
    | false => exact ⟨_, _, stAppend_no hnc, .inl rfl⟩
    | true => exact ⟨_, _, stAppend_yes hnc (by rcases HC4.out with ⟨_, rfl⟩ | ⟨_, _, rfl⟩ <;> rfl), .inr ⟨rfl, rfl, rfl⟩⟩
  rw [hn6] at H6 ⊢
  have H6 := Lib.hid H6
  clear hn6
  rcases HC4.out with ⟨rfl, rfl⟩ | ⟨rfl, hna, rfl⟩
  · rcases hcase with rfl | ⟨rfl, -, -⟩
    · go_wp2
      go_ret
      exact ⟨rfl, H6.out.below⟩
    · go_wp2
      go_ret
      exact ⟨rfl, H6.out.below⟩
  rcases hcase with rfl | ⟨rfl, hnc, rfl⟩
  · clear hna
    go_wp2
    go_ret
    exact ⟨rfl, H6.out.below⟩
  clear HC4
  have NA := Lib.hid hna; have NC := Lib.hid hnc; clear hna hnc
  have H6 : Hid (Held W.heap.size W w6 p (st2 a.data.toList c.data.toList x y) F6) := H6
  obtain ⟨f, hf, hfl⟩ := st2_a (c := c.data.toList) (x := x) (y := y) NA.out
  have HF := Lib.hid hf; have HFL := Lib.hid hfl; clear hf hfl
  go_wp2_with fail
  refine (read_any w6 p _ _ H6.out.fs a ha (fun g hg => by have := st2_data _ _ _ _ g hg; have := HLE.out; omega)).mono ?_
  rintro e w7 ⟨hb7, hr⟩
  rw [HF.out] at hr
  obtain ⟨u7, rfl, hu7⟩ := hr
  have H7 := Lib.hid (H6.out.go hB hb7)
  have S7 := Lib.hid (Own.outS hu7 (fun k hk => H6.out.fs.lt k hk))
  obtain ⟨A7, c7, rfl⟩ := hu7.form
  clear hu7 hb7 H6
  have hl2 : Hid (∀ a c : List UInt8, (st2 a c x y).files.length < 2147483648) := Lib.hid fun a c => by have := st2_len a c x y; omega
  go_wp2_with fail
  cases hnb : nameB b.data.toList with
  | false =>
    have NB := Lib.hid hnb; clear hnb
    refine (H7.out.rename hB ha hb (show (-1 : Int) ≤ _ by decide) (hl2.out _ _)).mono ?_
    rintro e w8 ⟨F8, rfl, H8, -, -⟩
    rw [stRename_name (.inr NB.out)] at H8 ⊢
    have H8 := Lib.hid H8
    clear S7 H7
    go_wp2_with fail
    refine (H8.out.rename hB ha hb (show (-1 : Int) ≤ _ by decide) (hl2.out _ _)).mono ?_
    rintro e w9 ⟨F9, rfl, H9, -, -⟩
    rw [stRename_name (.inr NB.out)] at H9 ⊢
    have H9 := Lib.hid H9
    clear H8
    go_wp2_with fail
    refine (H9.out.rename hB hb ha (show (-1 : Int) ≤ _ by decide) (hl2.out _ _)).mono ?_
    rintro e w10 ⟨F10, rfl, H10, -, -⟩
    rw [stRename_name (.inl NB.out)] at H10 ⊢
    have H10 := Lib.hid H10
    clear H9
    go_wp2
    go_ret
    exact ⟨rfl, H10.out.below⟩
  | true =>
    have NB := Lib.hid hnb; clear hnb
    refine (H7.out.rename hB ha hb (show (-1 : Int) ≤ _ by decide) (hl2.out _ _)).mono ?_
    rintro e w8 ⟨F8, rfl, H8, k8, g8⟩
    have e8 : stRename (st2 a.data.toList c.data.toList x y) a.data.toList b.data.toList = (st3 (st2 a.data.toList c.data.toList x y) a.data.toList b.data.toList f, 0) := by
      rw [stRename_ok NA.out NB.out HF.out]; rfl
    rw [e8] at H8 ⊢
    have H8 := Lib.hid H8
    have S8 := Lib.hid (S7.out.kept k8 g8)
    clear S7 H7 k8 g8 e8
    have hd3 : Hid (∀ g ∈ (st3 (st2 a.data.toList c.data.toList x y) a.data.toList b.data.toList f).files, g.data.length ≤ 2147483648) := Lib.hid fun g hg => by
      have h1 := st3_data (n := x.length + y.length) (st2_data _ _ _ _) HFL.out g hg
      have := HLE.out
      omega
    go_wp2_with fail
    refine (read_any w8 p _ _ H8.out.fs b hb hd3.out).mono ?_
    rintro e w9 ⟨hb9, hr⟩
    rw [st3_b NB.out] at hr
    obtain ⟨u9, rfl, hu9⟩ := hr
    have H9 := Lib.hid (H8.out.go hB hb9)
    have S9 := Lib.hid (S8.out.below hb9).out
    have G9 := Lib.hid (Own.seg hu9)
    obtain ⟨A9, c9, rfl⟩ := hu9.form
    clear hu9 hb9 H8 S8
    go_wp2_with fail
    refine (sameBytes_any _ _ f.data f.data _ w9 G9.out S9.out).mono ?_
    rintro e w10 ⟨rfl, n10, rfl⟩
    rw [decide_eq_true rfl]
    have H10 := Lib.hid (H9.out.go hB (below_drewN (Below.refl _ _) n10))
    clear H9 S9 G9
    go_wp2_with fail
    by_cases hab : a = b
    · subst hab
      refine (read_any _ p _ _ H10.out.fs a ha hd3.out).mono ?_
      rintro e w11 ⟨hb11, hr⟩
      rw [st3_b NB.out] at hr
      obtain ⟨u11, rfl, hu11⟩ := hr
      have H11 := Lib.hid (H10.out.go hB hb11)
      obtain ⟨A11, c11, rfl⟩ := hu11.form
      clear hu11 hb11 H10
      by_cases hca : c = a
      · subst hca
        go_wp2
        go_ret
        exact ⟨rfl, H11.out.below⟩
      · have HCA := Lib.hid (dat_ne hca); have HCB := HCA
        have q1 := toL_ne hca
        have q2 : (c.toList == a.toList) = false := beq_eq_false_iff_ne.2 q1
        clear hca
        go_wp2_with fail
        refine (read_any _ p _ _ H11.out.fs c hc hd3.out).mono ?_
        rintro e w12 ⟨hb12, hr⟩
        rw [st3_c NC.out HCA.out HCB.out (st2_c HCA.out)] at hr
        obtain ⟨u12, rfl, hu12⟩ := hr
        have H12 := Lib.hid (H11.out.go hB hb12)
        have G12 := Lib.hid (Own.seg hu12)
        obtain ⟨A12, c12, rfl⟩ := hu12.form
        clear hu12 hb12 H11
        go_wp2_with fail
        refine (sameBytes_any _ _ y y _ w12 G12.out ((Seg.toS (GY.out.below H12.out.below)).seg fun _ hk => Nat.lt_of_lt_of_le hk (H12.out.size hB))).mono ?_
        rintro e w13 ⟨rfl, n13, rfl⟩
        rw [decide_eq_true rfl]
        go_wp2
        go_ret
        exact ⟨rfl, below_drewN H12.out.below _⟩
    · have HAB := Lib.hid (dat_ne hab)
      have q3 := toL_ne hab
      have q4 : (a.toList == b.toList) = false := beq_eq_false_iff_ne.2 q3
      clear hab
      refine (read_any _ p _ _ H10.out.fs a ha hd3.out).mono ?_
      rintro e w11 ⟨hb11, hr⟩
      rw [st3_a NA.out HAB.out] at hr
      obtain rfl := hr
      have H11 := Lib.hid (H10.out.go hB hb11)
      clear hb11 H10
      by_cases hca : c = a
      · subst hca
        go_wp2
        go_ret
        exact ⟨rfl, H11.out.below⟩
      by_cases hcb : c = b
      · subst hcb
        have q1 := toL_ne hca
        have q2 : (c.toList == a.toList) = false := beq_eq_false_iff_ne.2 q1
        clear hca
        go_wp2
        go_ret
        exact ⟨rfl, H11.out.below⟩
      · have HCA := Lib.hid (dat_ne hca); have HCB := Lib.hid (dat_ne hcb)
        have q1 := toL_ne hca
        have q2 : (c.toList == a.toList) = false := beq_eq_false_iff_ne.2 q1
        have q5 := toL_ne hcb
        have q6 : (c.toList == b.toList) = false := beq_eq_false_iff_ne.2 q5
        clear hca hcb
        go_wp2_with fail
        refine (read_any _ p _ _ H11.out.fs c hc hd3.out).mono ?_
        rintro e w12 ⟨hb12, hr⟩
        rw [st3_c NC.out HCA.out HCB.out (st2_c HCA.out)] at hr
        obtain ⟨u12, rfl, hu12⟩ := hr
        have H12 := Lib.hid (H11.out.go hB hb12)
        have G12 := Lib.hid (Own.seg hu12)
        obtain ⟨A12, c12, rfl⟩ := hu12.form
        clear hu12 hb12 H11
        go_wp2_with fail
        refine (sameBytes_any _ _ y y _ w12 G12.out ((Seg.toS (GY.out.below H12.out.below)).seg fun _ hk => Nat.lt_of_lt_of_le hk (H12.out.size hB))).mono ?_
        rintro e w13 ⟨rfl, n13, rfl⟩
        rw [decide_eq_true rfl]
        go_wp2
        go_ret
        exact ⟨rfl, below_drewN H12.out.below _⟩
end Go.Proofs.Ytpdelgjfamelfaa
/- V19 -/
namespace Go.Proofs.Ytpdelgjfamelfaa
open Go.RowKit Go.Lib Go.Vfs Go.Par
set_option linter.unusedVariables false

theorem Own.formB {w : World} {base : Nat} {e : TypeId} {v : Value} {l : List UInt8} (h : Par.Own w base e v (byteCells l)) : ∃ A c, v = .slice A l.length c := by
  obtain ⟨A, c, e⟩ := h.form
  exact ⟨A, c, by rw [e, byteCells_length]⟩
/-- the bytes of a slice of one's own are written, one by one; nothing else is. -/
def Flip (w : World) (A : Option Addr) (n : Nat) (wr : World) : Prop :=
  Kept (fun k => A.map (·.block) = some k) w wr ∧ wr.heap.size = w.heap.size ∧ ∀ j, j < n → ∃ g m, A = some ⟨g, 0, none⟩ ∧ wr.cell? ⟨g, j, none⟩ = some (.int .u8 m) ∧ wr.frozen? ⟨g, j, none⟩ = false
theorem Flip.start {w : World} {base : Nat} {A : Option Addr} {c : Nat} {l : List UInt8} (h : Par.Own w base 5 (.slice A l.length c) (byteCells l)) : Flip w A l.length w := by
  refine ⟨Kept.refl _ _, rfl, fun j hj => ?_⟩
  obtain ⟨_, ⟨e, h0⟩ | ⟨g, cap, cur, e, hb, hg, h1, h2, h3, h4⟩⟩ := h
  · rw [byteCells_length] at h0; omega
  · rw [byteCells_length] at e h4 h1
    injection e with e1 e2 e3
    subst e1
    have hc : cur.toList[j]? = (byteCells l)[j]? := by
      rw [← h4, List.getElem?_take_of_lt]
      omega
    refine ⟨g, (l[j].toNat : Int), rfl, ?_, ?_⟩
    · rw [Go.Joins.cell_of_block hg]
      rw [← Array.getElem?_toList, hc]
      simp [byteCells, hj]
    · exact Go.Joins.unfrozen_of_block hg j
theorem Flip.step {w wr : World} {g n : Nat} (h : Flip w (some ⟨g, 0, none⟩) n wr) (k : Nat) (x : Int) : Flip w (some ⟨g, 0, none⟩) n (wr.setCell ⟨g, k, none⟩ (.int .u8 x)) := by
  obtain ⟨h1, h2, h3⟩ := h
  refine ⟨h1.setCell (p := ⟨g, k, none⟩) (.inl rfl) _, by rw [← h2]; simp, fun j hj => ?_⟩
  obtain ⟨g', m, e, hc, hf⟩ := h3 j hj
  cases e
  obtain ⟨m', hm⟩ := someInt_setCell ⟨m, hc⟩ ⟨g, k, none⟩ x
  exact ⟨g, m', rfl, hm, by rw [World.frozen?_setCell]; exact hf⟩
theorem Flip.held {B : Nat} {w0 w wr : World} {p : Nat} {st : St} {F : Nat → Prop} {A : Option Addr} {n : Nat} (h : Flip w A n wr) (H : Held B w0 w p st F) (hB : B ≤ w0.heap.size) (hg : ∀ g, A.map (·.block) = some g → ¬ F g ∧ B ≤ g) : Held B w0 wr p st F :=
  ⟨H.fs.keep fun k hk => h.1.block k (H.fs.lt k hk) (fun e => (hg k e).1 hk), H.new, H.below.trans (h.1.below (H.size hB) fun k hk => (hg k hk).2)⟩
theorem Flip.drewN {w wr : World} {A : Option Addr} {n : Nat} (h : Flip w A n wr) (m : Nat) : Flip w A n (wr.drewN m) := ⟨h.1.drewN m, h.2.1, h.2.2⟩

theorem Held.go' {B : Nat} {w0 w w' : World} {p : Nat} {st : St} {F : Nat → Prop} (h : Held B w0 w p st F) (n : Nat) (hF : ∀ k, F k → k < n) (hn : B ≤ n) (hb : Below n w w') : Held B w0 w' p st F :=
  ⟨h.fs.keep fun k hk => hb.block k (hF k hk), h.new, h.below.trans (hb.mono hn)⟩
theorem own_grown {w w' : World} {base : Nat} {e : TypeId} {v : Value} {xs : List Value} (h : Par.Own w base e v xs) (hb : base ≤ w.heap.size) (hg : w.grownBy w' v.ownBlock) : Below base w w' :=
  ((Kept.refl (fun k => base ≤ k) w).grown hg (fun k e => .inl (h.lt k e).1)).below hb (fun _ h => h)
theorem slice_front (A : Option Addr) (n c N : Nat) (w : World) (h : N ≤ c) : (Instr.slice 22 (.slice A n c) none (some (.int .i64 (N : Int))) none).run Try.prog w = .ok (.slice A N c) w := by
  have ht' : Try.prog.underlying 22 = some (.slice (Try.prog.elem 22)) := by simp [Program.elem, Try.underlying22]
  have he : Try.prog.elem 22 = 5 := by simp [Program.elem, Try.underlying22]
  rw [run_slice_h w 22 _ _ _ ht' .i64 _ (by omega) (by omega), he, Try.sizeOf5]
  simp only [Result.andThen, sliced]
  cases A <;> simp [Addr.add]
theorem seg_front {w : World} {B : Nat} {A : Option Addr} {c : Nat} {l r : List UInt8} (h : Seg w B (.slice A (l ++ r).length c) (byteCells (l ++ r))) : l.length ≤ c ∧ Seg w B (.slice A l.length c) (byteCells l) := by
  obtain ⟨A', c', e, h1, h2, h3⟩ := h
  rw [byteCells_length] at e h1 h3
  injection e with e1 e2 e3
  subst e1 e3
  have h4 : l.length ≤ c := by simp at h1; omega
  refine ⟨h4, A, c, by rw [byteCells_length], by rw [byteCells_length]; exact h4, h2, fun hp => ?_⟩
  rw [byteCells_length] at hp
  obtain ⟨b, off, e, hb, hc⟩ := h3 (by simp; omega)
  refine ⟨b, off, e, hb, fun i hi => ?_⟩
  rw [byteCells_length] at hi
  rw [hc i (by simp; omega), byteCells_append, List.getElem?_append_left (by rw [byteCells_length]; exact hi)]
theorem crash_x (l : List UInt8) (hl : l.length ≤ 5000) : stCrash ⟨-1, [⟨[120], l, 0⟩]⟩ [1073741824] (-1) = ⟨-1, [⟨[120], l, l.length⟩]⟩ := by
  have h1 : cutK [1073741824] 0 = 1073741824 := rfl
  have h2 : cutN 1073741824 ⟨[120], l, 0⟩ = l.length := by
    unfold cutN
    have : (1073741824 : Int).toNat = 1073741824 := rfl
    simp only [this]
    omega
  unfold stCrash
  simp only [crashL, crashF, h1, h2, List.take_length]
set_option maxRecDepth 20000 in
set_option maxHeartbeats 2000000 in
theorem vfsMemory_walk (va : Value) (a : List UInt8) (ha : a.length ≤ 140737488351232) (vb : Value) (b : List UInt8) (hb : b.length ≤ 140737488351232) (W : World)
    (ga : Seg W W.heap.size va (byteCells a)) (gb : Seg W W.heap.size vb (byteCells b)) :
    Calls Try.prog 3 #[va, vb] W fun e W' => e = .returned (.bool true) ∧ Below W.heap.size W W' := by
  obtain ⟨A, ca, rfl, -⟩ := ga.open_bytes
  obtain ⟨A', ca', rfl, -⟩ := gb.open_bytes
  have GX := Lib.hid ga; have GY := Lib.hid gb; clear ga gb
  go_enter Try.func3, Try.ntmps3
  go_wp2_with fail
  refine (alive_any W).mono ?_
  rintro e w1 ⟨rfl, hb1⟩
  have HB1 := Lib.hid hb1; clear hb1
  go_wp2_with fail
  refine (new_fs (-1) w1).mono ?_
  rintro e w2 ⟨p, F2, rfl, hfs, hF, hb2⟩
  have hs1 := HB1.out.size
  have H2 : Hid (Held W.heap.size W w2 p ⟨-1, []⟩ F2) := Lib.hid ⟨hfs, fun k hk => Nat.le_trans hs1 (hF k hk).1, HB1.out.trans (hb2.mono hs1)⟩
  clear hfs hF hb2 HB1 hs1
  by_cases hlen : (a.length : Int) + b.length > 5000
  · go_wp2
    go_ret
    exact ⟨rfl, H2.out.below⟩
  have hle : a.length + b.length ≤ 5000 := by omega
  have HLE := Lib.hid hle; clear hle
  have hB : W.heap.size ≤ W.heap.size := Nat.le_refl _
  go_wp2_with fail
  have hs2 := H2.out.size hB
  refine (copyBytes_any _ a W.heap.size w2 (GX.out.below H2.out.below) hs2 (by have := HLE.out; omega)).mono ?_
  rintro e w3 ⟨u, rfl, hu, hb3⟩
  have H3 : Hid (Held W.heap.size W w3 p ⟨-1, []⟩ F2) := Lib.hid (H2.out.go hB hb3)
  obtain ⟨A3, c3, rfl⟩ := Own.formB hu
  have U3 := Lib.hid hu
  have S2 := Lib.hid (H2.out.size hB)
  have L3 : Hid (∀ k, F2 k → k < w2.heap.size) := Lib.hid (fun k hk => H2.out.fs.lt k hk)
  clear hu hb3 H2 hs2
  go_wp2_with fail
  have hs3 := H3.out.size hB
  refine (copyBytes_any _ b W.heap.size w3 (GY.out.below H3.out.below) hs3 (by have := HLE.out; omega)).mono ?_
  rintro e w4 ⟨u', rfl, hu', hb4⟩
  have H4 : Hid (Held W.heap.size W w4 p ⟨-1, []⟩ F2) := Lib.hid (H3.out.go hB hb4)
  obtain ⟨A4, c4, rfl⟩ := Own.formB hu'
  have U4 := Lib.hid (U3.out.below hb4)
  have hr4 := RowsAt.new2 (fun k hk => H4.out.fs.lt k hk) (Own.outS U4.out L3.out) (Own.outS hu' (fun k hk => H3.out.fs.lt k hk)) w4.heap.size rfl
  have HR4 := Lib.hid hr4
  have H4' := Lib.hid (H4.out.go hB ((Below.refl _ w4).alloc (Nat.le_refl _) (.cells #[.slice A3 a.length c3, .slice A4 b.length c4] 22)))
  have U4' := Lib.hid (U4.out.alloc (.cells #[.slice A3 a.length c3, .slice A4 b.length c4] 22))
  clear hu' hb4 hr4 H4 U4 U3 H3 hs3
  go_wp2_with fail
  refine (H4'.out.append hB (by decide) HR4.out ⟨by simp, by have := HLE.out; simp; omega, by simp, by decide⟩).mono ?_
  rintro e w5 ⟨F5, rfl, H5, k5, g5⟩
  have e5 : stAppend ⟨-1, []⟩ [120] [a, b].flatten = (⟨-1, [⟨[120], a ++ b, 0⟩]⟩, 0) := by simp; rfl
  replace e5 : stAppend ⟨-1, []⟩ (⟨#[120]⟩ : ByteArray).data.toList [a, b].flatten = (⟨-1, [⟨[120], a ++ b, 0⟩]⟩, 0) := e5
  rw [e5] at H5 ⊢
  have hg5 : ∀ g, A3.map (·.block) = some g → ¬ F2 g ∧ ¬ F5 g ∧ W.heap.size ≤ g ∧ g < w5.heap.size := fun g hg => by
    have h1 := U4'.out.lt g (by rcases A3 with _ | ⟨⟩ <;> simp [Value.ownBlock] at hg ⊢ <;> exact hg)
    have h2 := H4'.out.new
    have h3 := k5.size
    have h4 : W.heap.size ≤ w2.heap.size := S2.out
    refine ⟨fun hf => by have := L3.out g hf; omega, fun hf => by rcases g5 g hf with h | h; have := L3.out g h; omega; omega, by omega, by omega⟩
  have U5 : Par.Own w5 w2.heap.size 5 (.slice A3 a.length c3) (byteCells a) := ownsRow_block U4'.out fun g hg => by
    have hg' : A3.map (·.block) = some g := by rcases A3 with _ | ⟨⟩ <;> simp [Value.ownBlock] at hg ⊢ <;> exact hg
    exact k5.block g (U4'.out.lt g hg).2 (hg5 g hg').1
  have FL := Flip.start U5
  have H5 := Lib.hid H5; have HG := Lib.hid hg5
  clear e5 k5 g5 H4' U4' HR4 L3 U5 hg5
  go_wp2
  go_loopw [7] (fun i wr => ∃ k : Nat, k ≤ a.length ∧ i = .int .i64 k ∧ Flip w5 A3 a.length wr) (fun i _ => a.length - (intOf i).toNat)
  case atStart => exact ⟨0, by omega, rfl, FL⟩
  case round =>
    obtain ⟨k, hk, rfl, hfl⟩ := hrel
    by_cases hlt : k < a.length
    · obtain ⟨g, m, rfl, hc, hz⟩ := hfl.2.2 k hlt
      have HFL := Lib.hid hfl; clear hfl FL
      go_wp2
      go_roundw
      case rel => exact ⟨k + 1, by omega, by go_num, HFL.out.step k _⟩
      case measure => simp [intOf]; omega
    · have H6 := Lib.hid (hfl.held H5.out hB fun g hg => ⟨(HG.out g hg).2.1, (HG.out g hg).2.2.1⟩)
      clear FL hfl H5 HG S2
      go_wp2_with fail
      refine (copyBytes_any _ a W.heap.size wr (GX.out.below H6.out.below) (H6.out.size hB) (by have := HLE.out; omega)).mono ?_
      rintro e w7 ⟨u7, rfl, hu7, hb7⟩
      have H7 := Lib.hid (H6.out.go hB hb7)
      obtain ⟨A7, c7, rfl⟩ := Own.formB hu7
      have hsg7 := GY.out.below H7.out.below
      have hs7 := hb7.size
      have H6s := Lib.hid (H6.out.size hB)
      have HF6 := Lib.hid (fun k hk => H6.out.fs.lt k hk)
      clear hb7 H6
      have hlab := HLE.out
      go_wp2_with (first | (at_builtin; refine wpList_app _ rfl _ _ _ rfl wr.heap.size 5 _ byteE _ _ rfl hu7 _ _ _ rfl hsg7 (one_bytes _) ?c1 ?c2 ?_) | fail)
      case c1 => rw [byteCells_length, byteCells_length]; omega
      case c2 => omega
      intro v8 w8 hown8 hg8 hat8
      rw [← byteCells_append] at hown8
      have hb8 := own_grown hu7 hs7 hg8
      obtain ⟨ab, hab⟩ : ∃ ab, ab = a ++ b := ⟨_, rfl⟩
      rw [← hab] at hown8
      have HLL : Hid (ab.length ≤ 5000) := Lib.hid (by rw [hab]; simp; omega)
      have H8 : Hid (Held W.heap.size W w8 p ⟨-1, [⟨[120], ab, 0⟩]⟩ F5) := Lib.hid (by rw [hab]; exact H7.out.go' wr.heap.size HF6.out H6s.out hb8)
      clear hab
      have hs8 : wr.heap.size ≤ w8.heap.size := Nat.le_trans hs7 hb8.size
      obtain ⟨A8, c8, rfl⟩ := Own.formB hown8
      have U8 := Lib.hid hown8
      clear hu7 hsg7 hg8 hat8 hb8 H7 hs7
      go_wp2_with fail
      have H8' := H8.out.go hB ((Below.refl _ w8).alloc (Nat.le_refl _) (.cells #[.int .i64 1073741824] 3))
      have hk8 := (SegS.new (w := w8) (F := fun _ => False) (fun k hk => hk.elim) (ints [1073741824]) #[.int .i64 1073741824] rfl 1 rfl (by decide) 3 (0, 0) w8.heap.size rfl).out
      refine (crash_any _ p _ _ H8'.fs (by simp) (by simp) (by have := HLL.out; simp; omega) _ [1073741824] hk8 (-1)).mono ?_
      rintro e w9 ⟨p', F9, rfl, hfs9, hF9, hb9⟩
      rw [crash_x _ HLL.out] at hfs9
      have h8s := H8'.size hB
      have HG9 : Hid (Held W.heap.size W w9 p' ⟨-1, [⟨[120], ab, ab.length⟩]⟩ F9) := Lib.hid ⟨hfs9, fun k hk => Nat.le_trans h8s (hF9 k hk).1, H8'.below.trans (hb9.mono h8s)⟩
      have HF9 := Lib.hid (H8'.go hB hb9)
      have U9 := Lib.hid ((U8.out.alloc (.cells #[.int .i64 1073741824] 3)).below hb9)
      have D9 : Hid (∀ k, F9 k → w8.heap.size < k) := Lib.hid fun k hk => by have := (hF9 k hk).1; simp at this; omega
      have L5 : Hid (∀ k, F5 k → k < wr.heap.size) := HF6
      have S9 : Hid (wr.heap.size ≤ w9.heap.size) := Lib.hid (by have := hb9.size; simp at this; omega)
      have B9 := Lib.hid (fun k hk => (U8.out.lt k hk).2)
      have S98 : Hid (w8.heap.size ≤ w9.heap.size) := Lib.hid (by have := hb9.size; simp at this; omega)
      clear hk8 hfs9 hF9 hb9 h8s H8' H8 U8 hown8
      go_wp2_with fail
      refine (read_any w9 p _ _ HF9.out.fs _ (by decide) (by have := HLL.out; simp; omega)).mono ?_
      rintro e w10 ⟨hb10, hr⟩
      replace hr : ∃ u, e = .returned (.tuple #[u, .int .i64 0]) ∧ Par.Own w10 w9.heap.size 5 u (byteCells ab) := hr
      obtain ⟨u10, rfl, hu10⟩ := hr
      obtain ⟨A10, c10, rfl⟩ := Own.formB hu10
      have HG10 := Lib.hid (HG9.out.go hB hb10)
      have HF10 := Lib.hid (HF9.out.go hB hb10)
      have U10 := Lib.hid (U9.out.below hb10)
      have FL := Flip.start hu10
      have hg10 : ∀ g, A10.map (·.block) = some g → w9.heap.size ≤ g := fun g hg => (hu10.lt g (by rcases A10 with _ | ⟨⟩ <;> simp [Value.ownBlock] at hg ⊢ <;> exact hg)).1
      have LF := Lib.hid (fun k hk => HF9.out.fs.lt k hk); have LG := Lib.hid (fun k hk => HG9.out.fs.lt k hk)
      have HGG := Lib.hid hg10
      have T9 := Lib.hid (HF9.out.size hB)
      clear hb10 hu10 HG9 HF9 hg10
      go_wp2
      go_loopw [12] (fun i wr => ∃ k : Nat, k ≤ ab.length ∧ i = .int .i64 k ∧ Flip w10 A10 ab.length wr) (fun i _ => ab.length - (intOf i).toNat)
      case atStart => exact ⟨0, by omega, rfl, FL⟩
      case round =>
        obtain ⟨k, hk, rfl, hfl⟩ := hrel
        by_cases hlt : k < ab.length
        · obtain ⟨g, m, rfl, hc, hz⟩ := hfl.2.2 k hlt
          have HFL := Lib.hid hfl; clear hfl FL
          have hll := HLL.out
          go_wp2
          go_roundw
          case rel => exact ⟨k + 1, by omega, by go_num, HFL.out.step k _⟩
          case measure => simp [intOf]; omega
        · have HF11 := Lib.hid (hfl.held HF10.out hB fun g hg => ⟨fun h => by have := LF.out g h; have := HGG.out g hg; omega, by have := HGG.out g hg; have := T9.out; omega⟩)
          have HG11 := Lib.hid (hfl.held HG10.out hB fun g hg => ⟨fun h => by have := LG.out g h; have := HGG.out g hg; omega, by have := HGG.out g hg; have := T9.out; omega⟩)
          have U11 : Hid (Par.Own wr _ 5 (.slice A8 ab.length c8) (byteCells ab)) := Lib.hid (ownsRow_block U10.out fun g hg => hfl.1.block g (U10.out.lt g hg).2 (fun h => by have := HGG.out g h; have := B9.out g hg; have := S98.out; omega))
          clear hfl FL HF10 HG10 U10
          have k11 := Go.Joins.run_convert_bytes_const_at (P := Try.prog) wr 22 5 #[.int .u8 109, .int .u8 111, .int .u8 114, .int .u8 101] 4 4 _ rfl Try.underlying22 Try.underlying5
          simp only [List.size_toArray, List.length_cons, List.length_nil, Nat.reduceAdd] at k11
          go_wp2_with fail
          have hr12 := RowsAt.new1 (w := wr.alloc (.cells #[.int .u8 109, .int .u8 111, .int .u8 114, .int .u8 101] 5 (4, 5))) (F := F9) (fun k hk => by have := HG11.out.fs.lt k hk; simp; omega) (SegS.new (fun k hk => HG11.out.fs.lt k hk) (byteCells [109, 111, 114, 101]) _ rfl 4 rfl (by decide) _ _ wr.heap.size rfl) (wr.heap.size + 1) (by simp)
          have hb12 : Below wr.heap.size wr ((wr.alloc (.cells #[.int .u8 109, .int .u8 111, .int .u8 114, .int .u8 101] 5 (4, 5))).alloc (.cells #[.slice (some ⟨wr.heap.size, 0, none⟩) 4 4] 22)) := ((Below.refl _ wr).alloc (Nat.le_refl _) _).alloc (by simp) _
          have HG12 := HG11.out.go hB hb12
          have HF12 := HF11.out.go hB hb12
          have U12 := U11.out.below hb12
          refine (HG12.append hB (by decide) hr12 ⟨by have := HLL.out; simp; omega, by decide, by simp, by simp⟩).mono ?_
          rintro e w13 ⟨F13, he, HG13, k13, g13⟩
          have e13 : stAppend ⟨-1, [⟨[120], ab, ab.length⟩]⟩ (⟨#[120]⟩ : ByteArray).data.toList [[109, 111, 114, 101]].flatten = (⟨-1, [⟨[120], ab ++ [109, 111, 114, 101], ab.length⟩]⟩, 0) := by rfl
          rw [e13] at he HG13
          subst he
          have HF13 : Hid (Held W.heap.size W w13 p ⟨-1, [⟨[120], ab, 0⟩]⟩ F5) := Lib.hid ⟨HF12.fs.keep fun k hk => k13.block k (HF12.fs.lt k hk) (fun h => by have := D9.out k h; have := L5.out k hk; omega), HF12.new, HF12.below.trans (k13.below (HF12.size hB) HG12.new)⟩
          have U13 := Lib.hid (ownsRow_block U12 fun g hg => k13.block g (U12.lt g hg).2 (fun h => by have := D9.out g h; have := B9.out g hg; omega))
          have HG13 := Lib.hid HG13
          clear hr12 hb12 HG12 HF12 U12 k13 g13 e13 HG11 HF11 U11 k11
          go_wp2_with fail
          refine (read_any w13 p _ _ HF13.out.fs _ (by decide) (by have := HLL.out; simp; omega)).mono ?_
          rintro e w14 ⟨hb14, hr⟩
          replace hr : ∃ u, e = .returned (.tuple #[u, .int .i64 0]) ∧ Par.Own w14 w13.heap.size 5 u (byteCells ab) := hr
          obtain ⟨u14, rfl, hu14⟩ := hr
          obtain ⟨A14, c14, rfl⟩ := Own.formB hu14
          have HG14 := Lib.hid (HG13.out.go hB hb14)
          have U14 := Lib.hid (Own.below U13.out hb14)
          have Y14 := Lib.hid hu14
          clear hb14 hu14 HG13 U13 HF13
          go_wp2_with fail
          refine (read_any w14 p' _ _ HG14.out.fs _ (by decide) (by have := HLL.out; simp; omega)).mono ?_
          rintro e w15 ⟨hb15, hr⟩
          replace hr : ∃ u, e = .returned (.tuple #[u, .int .i64 0]) ∧ Par.Own w15 w14.heap.size 5 u (byteCells (ab ++ [109, 111, 114, 101])) := hr
          obtain ⟨u15, rfl, hu15⟩ := hr
          obtain ⟨A15, c15, rfl⟩ := Own.formB hu15
          have HG15 := Lib.hid (HG14.out.go hB hb15)
          have U15 := Lib.hid (Own.seg (Own.below U14.out hb15))
          have Y15 := Lib.hid (Own.seg (Own.below Y14.out hb15))
          obtain ⟨hc15, hz15⟩ := seg_front (Own.seg hu15)
          have Z15 := Lib.hid hz15
          clear hb15 HG14 U14 Y14 hz15 hu15
          go_wp2_with fail
          refine (sameBytes_any _ _ ab ab _ w15 Y15.out U15.out).mono ?_
          rintro e w16 ⟨rfl, n16, rfl⟩
          rw [decide_eq_true rfl]
          have hsl := slice_front A15 (ab ++ [109, 111, 114, 101]).length c15 ab.length (w15.drewN n16) hc15
          have hll := HLL.out
          simp only [List.length_append, List.length_cons, List.length_nil, Nat.reduceAdd] at hsl ⊢
          go_wp2_with fail
          refine (sameBytes_any _ _ ab ab w15.heap.size (w15.drewN n16) Z15.out U15.out).mono ?_
          rintro e w17 ⟨rfl, n17, rfl⟩
          rw [decide_eq_true rfl]
          go_wp2
          go_ret
          exact ⟨rfl, below_drewN HG15.out.below _⟩
end Go.Proofs.Ytpdelgjfamelfaa
/- VA -/
/- Append where the bytes are counted. -/
namespace Go.Par
open Go.RowKit Go.Lib
set_option linter.unusedVariables false
structure ElemB (P : Program) (t e : TypeId) (z : Value) (bytes : Nat) : Prop where
  und : P.underlying t = some (.slice e)
  info : ∃ i, P.info? e = some i ∧ i.zero = some z ∧ i.size = 1 ∧ i.bytes = bytes
  one : z.cells.size = 1
  few : bytes ≤ 64
theorem ElemB.plain {P : Program} {t e : TypeId} {z : Value} {bytes : Nat} (h : ElemB P t e z bytes) : Elem P t e z := by
  obtain ⟨i, h1, h2, h3, h4⟩ := h.info
  exact ⟨h.und, ⟨i, bytes, h1, h2, h3, h4, h.few⟩, h.one⟩
theorem elemB_of {P : Program} {t e : TypeId} {z : Value} {b : Nat} (ht : P.underlying t = some (.slice e)) (h : (P.info? e).map (fun i => (i.zero, i.size, i.bytes)) = some (some z, 1, b)) (hb : b ≤ 64) (h1 : z.cells.size = 1) : ElemB P t e z b := by
  obtain ⟨i, hi, h0, h2, h3⟩ := info_parts h
  exact ⟨ht, ⟨i, hi, h0, h2, h3⟩, h1, hb⟩
section
variable {P : Program} (w : World)

/-- what append leaves. -/
theorem run_appB (base : Nat) (t ty e : TypeId) (z : Value) (bytes : Nat) (E : ElemB P t e z bytes) (v : Value) (xs : List Value) (hown : Own w base e v xs)
    (B : Nat) (u : Value) (news : List Value) (hs : Seg w B u news) (h1 : ∀ x ∈ news, x.oneCell' = true)
    (hbd : (xs.length + news.length) * bytes ≤ 140737488355328) (hby1 : 1 ≤ bytes) (hbase : base ≤ w.heap.size) :
    ∃ v' w', (Builtin.append_ #[t, t] ty #[v, u]).run P w = .ok v' w' ∧ Own w' base e v' (xs ++ news) ∧ w.grownBy w' v.ownBlock ∧
      (v'.ownBlock = v.ownBlock ∨ v'.ownBlock = some w.heap.size) := by
  obtain ⟨i, hi, hz, hsz, hby⟩ := E.info
  have hbd1 : xs.length + news.length ≤ 140737488355328 := Nat.le_trans (Nat.le_mul_of_pos_right _ hby1) hbd
  obtain ⟨A, c, rfl, hc, hm, ha⟩ := hs
  have key : ∀ ad : Addr, A = some ad → (∀ j x, news[j]? = some x → w.cell? (ad.add j) = some x) → ∃ v' w', (Builtin.append_ #[t, t] ty #[v, .slice A news.length c]).run P w = .ok v' w' ∧ Own w' base e v' (xs ++ news) ∧ w.grownBy w' v.ownBlock ∧
      (v'.ownBlock = v.ownBlock ∨ v'.ownBlock = some w.heap.size) := by
    rintro ad rfl hcells
    have hb2 := hbd
    obtain ⟨v', w', hr, h2, h3, _, h5⟩ := run_append_own_at (P := P) w base t ty e i z 1 bytes E.und hi hz hsz hby E.one (by decide) v xs.length xs hown ad news.length c news (by simp) hcells h1 (by simp only [maxLen]; omega) hb2 hbase
    refine ⟨v', w', hr, ?_, h3, h5⟩
    unfold Own
    rw [List.length_append]
    exact h2
  rcases Nat.eq_zero_or_pos news.length with h0 | hp
  · have hn : news = [] := List.eq_nil_of_length_eq_zero h0
    subst hn
    rcases A with _ | ad
    · exact ⟨v, w, run_app_nil w base t ty e z E.plain v xs hown c, by simpa using hown, World.grownBy.refl w _, .inl rfl⟩
    · exact key ad rfl (fun j x hj => by simp at hj)
  · obtain ⟨b, off, rfl, _, hcell⟩ := ha hp
    refine key _ rfl (fun j x hj => ?_)
    rw [add_addr, hcell j (List.getElem?_eq_some_iff.1 hj).1]
    exact hj

theorem wp_appB {o : Oper} {a : Act} {K : Act → World → Prop} {Q : Exit → Act → World → Prop} (s x : Operand) (t : TypeId)
    (ho : o.op = .call { callee := .builtin .append, args := #[s, x], argTypes := #[t, t] })
    (base : Nat) (e : TypeId) (z : Value) (bytes : Nat) (E : ElemB P t e z bytes) (v : Value) (xs : List Value) (hs : a.eval s = v) (hown : Own w base e v xs)
    (B : Nat) (u : Value) (news : List Value) (hx : a.eval x = u) (hsg : Seg w B u news) (h1 : ∀ x ∈ news, x.oneCell' = true)
    (hbd : (xs.length + news.length) * bytes ≤ 140737488355328) (hby1 : 1 ≤ bytes) (hbase : base ≤ w.heap.size)
    (h : ∀ v' w', Own w' base e v' (xs ++ news) → w.grownBy w' v.ownBlock → (v'.ownBlock = v.ownBlock ∨ v'.ownBlock = some w.heap.size) → K (a.put o.dst v') w') : o.wp P a w K Q := by
  obtain ⟨v', w', hrun, h2, h3, h4⟩ := run_appB (P := P) w base t o.type e z bytes E v xs hown B u news hsg h1 hbd hby1 hbase
  unfold Oper.wp execOp
  simp only [ho, resolve, invoke, builtin, Sem.run_bind, Sem.run_pure, Result.andThen_ok, List.map_toArray, List.map_cons, List.map_nil, hs, hx, hrun]
  exact h v' w' h2 h3 h4

theorem wpList_appB {ops : Array Oper} {rest : List Oper} {o : Oper} {a : Act} {Q : Exit → Act → World → Prop} (hgd : o.guard = none) (s x : Operand) (t : TypeId)
    (ho : o.op = .call { callee := .builtin .append, args := #[s, x], argTypes := #[t, t] })
    (base : Nat) (e : TypeId) (z : Value) (bytes : Nat) (E : ElemB P t e z bytes) (v : Value) (xs : List Value) (hs : a.eval s = v) (hown : Own w base e v xs)
    (B : Nat) (u : Value) (news : List Value) (hx : a.eval x = u) (hsg : Seg w B u news) (h1 : ∀ x ∈ news, x.oneCell' = true)
    (hbd : (xs.length + news.length) * bytes ≤ 140737488355328) (hby1 : 1 ≤ bytes) (hbase : base ≤ w.heap.size)
    (h : ∀ v' w', Own w' base e v' (xs ++ news) → w.grownBy w' v.ownBlock → (v'.ownBlock = v.ownBlock ∨ v'.ownBlock = some w.heap.size) → wpList P ops Q rest (a.put o.dst v') w') : wpList P ops Q (o :: rest) a w :=
  wpList_plain hgd fun _ hK => wp_appB w s x t ho base e z bytes E v xs hs hown B u news hx hsg h1 hbd hby1 hbase fun v' w' h2 h3 h4 => hK _ _ (h v' w' h2 h3 h4)

end
end Go.Par
/- V20 -/
namespace Go.Proofs.Ytpdelgjfamelfaa
open Go.RowKit Go.Lib Go.Vfs Go.Par
set_option linter.unusedVariables false

theorem intB : ElemB Try.prog 30 3 (.int .i64 0) 8 := elemB_of Try.underlying30 (by kernel_rfl) (by decide) rfl

set_option maxHeartbeats 400000 in
theorem copyInts_big (v : Value) (zs : List Int) (B : Nat) (w : World) (hsg : Seg w B v (ints zs)) (hB : B ≤ w.heap.size) (hl : zs.length ≤ 17592186043904) :
    Calls Try.prog 24 #[v] w fun e w' => ∃ u, e = .returned u ∧ Par.Own w' w.heap.size 3 u (ints zs) ∧ Below w.heap.size w w' := by
  have hown := Par.Own.new w w.heap.size 3 #[] [] rfl (Nat.le_refl _) (by simp)
  have hb0 : Below w.heap.size w (w.alloc (.cells #[] 3)) := (Below.refl _ w).alloc (Nat.le_refl _) _
  have hsg1 := hsg.below (hb0.mono hB)
  clear hsg
  go_enter Try.func24, Try.ntmps24
  go_wp2_with (at_builtin; refine wpList_appB _ rfl _ _ _ rfl w.heap.size 3 _ 8 intB _ _ rfl hown _ v _ rfl hsg1 (one_ints _) ?c1 (by decide) ?c2 ?_)
  case c1 => rw [ints_length]; simp only [List.length_nil]; omega
  case c2 => first | omega | (simp; done) | (simp; omega)
  intro v3 w3 hown4 hg3 hat3
  go_wp2
  go_ret
  exact ⟨_, rfl, by simpa using hown4, below_app hb0 hown hg3 (by simp)⟩

/-- an Op in memory: its six cells. -/
structure OpR where
  what : Int
  n : Int
  name : ByteArray
  other : ByteArray
  pv : Value
  kv : Value
  parts : List (List UInt8)
  keeps : List Int
def OpR.cells (o : OpR) : List Value := [.int .i64 o.what, .int .i64 o.n, .string o.name, .string o.other, o.pv, o.kv]
/-- an Op whose slices lie below B. -/
structure OpAt (w : World) (B : Nat) (o : OpR) : Prop where
  rows : RowsAt (· < B) w o.pv o.parts
  ints : Seg w B o.kv (ints o.keeps)
  name : o.name.size ≤ 9223372036854775807
  other : o.other.size ≤ 9223372036854775807
  few : o.keeps.length ≤ 17592186043904
/-- a slice of Ops. -/
def SegO (w : World) (B : Nat) (v : Value) (os : List OpR) : Prop :=
  ∃ A c, v = .slice A os.length c ∧ os.length ≤ c ∧ c ≤ 9223372036854775807 ∧ (∀ o ∈ os, OpAt w B o) ∧
    ∀ i (h : i < os.length), ∃ b off, A = some ⟨b, off, none⟩ ∧ b < B ∧ ∀ j, j < 6 → w.cell? ⟨b, off + i * 6 + j, none⟩ = os[i].cells[j]?
theorem OpAt.below {w w' : World} {B : Nat} {o : OpR} (h : OpAt w B o) (hb : Below B w w') : OpAt w' B o :=
  ⟨h.rows.keep fun b hk => ⟨hk, hb.block b hk⟩, h.ints.below hb, h.name, h.other, h.few⟩
theorem SegO.below {w w' : World} {B : Nat} {v : Value} {os : List OpR} (h : SegO w B v os) (hb : Below B w w') : SegO w' B v os := by
  obtain ⟨A, c, h1, h2, h3, h4, h5⟩ := h
  refine ⟨A, c, h1, h2, h3, fun o ho => (h4 o ho).below hb, fun i hi => ?_⟩
  obtain ⟨b, off, e, hbb, hc⟩ := h5 i hi
  exact ⟨b, off, e, hbb, fun j hj => by rw [hb.cell (p := ⟨b, _, none⟩) hbb]; exact hc j hj⟩
end Go.Proofs.Ytpdelgjfamelfaa
/- V21 -/
namespace Go.Proofs.Ytpdelgjfamelfaa
open Go.RowKit Go.Lib Go.Vfs Go.Par
set_option linter.unusedVariables false

theorem SegO.take {w : World} {B : Nat} {A : Option Addr} {n c : Nat} {os : List OpR} (h : SegO w B (.slice A n c) os) (k : Nat) (hk : k ≤ os.length) : SegO w B (.slice A k c) (os.take k) := by
  obtain ⟨A', c', e, h2, h3, h4, h5⟩ := h
  injection e with e1 e2 e3
  subst e1 e3
  have hl : (os.take k).length = k := by simp; omega
  refine ⟨A, c, by rw [hl], by omega, h3, fun o ho => h4 o (List.mem_of_mem_take ho), fun i hi => ?_⟩
  rw [hl] at hi
  obtain ⟨b, off, e, hb, hc⟩ := h5 i (by omega)
  exact ⟨b, off, e, hb, fun j hj => by rw [hc j hj, List.getElem_take]⟩

theorem slice_ops (A : Option Addr) (n c N : Nat) (w : World) (h : N ≤ c) : (Instr.slice 36 (.slice A n c) none (some (.int .i64 (N : Int))) none).run Try.prog w = .ok (.slice A N c) w := by
  have ht' : Try.prog.underlying 36 = some (.slice (Try.prog.elem 36)) := by simp [Program.elem, Try.underlying36]
  have he : Try.prog.elem 36 = 44 := by simp [Program.elem, Try.underlying36]
  rw [run_slice_h w 36 _ _ _ ht' .i64 _ (by omega) (by omega), he, Try.sizeOf44]
  simp only [Result.andThen, sliced]
  cases A <;> simp [Addr.add]

set_option maxHeartbeats 400000 in
theorem cut_any (v : Value) (os : List OpR) (B : Nat) (w : World) (h : SegO w B v os) :
    Calls Try.prog 22 #[v] w fun e w' => ∃ u, e = .returned u ∧ SegO w B u (os.take 60) ∧ w' = w := by
  have h0 := h
  obtain ⟨A, c, rfl, h2, h3, -, -⟩ := h
  have H := Lib.hid h0; clear h0
  by_cases hl : (os.length : Int) > 60
  · have hs := slice_ops A os.length c 60 w (by omega)
    go_enter Try.func22, Try.ntmps22
    go_wp2
    go_ret
    exact ⟨_, rfl, H.out.take 60 (by omega), rfl⟩
  · go_enter Try.func22, Try.ntmps22
    go_wp2
    go_ret
    refine ⟨_, rfl, ?_, rfl⟩
    rw [List.take_of_length_le (by omega)]
    exact H.out
end Go.Proofs.Ytpdelgjfamelfaa
/- V22 -/
namespace Go.Proofs.Ytpdelgjfamelfaa
open Go.RowKit Go.Lib Go.Vfs Go.Par
set_option linter.unusedVariables false

def sizeP (ls : List (List UInt8)) : Nat := (ls.map fun l => 1 + l.length).sum
def sizeO (os : List OpR) : Nat := (os.map fun o => sizeP o.parts).sum
theorem sizeP_succ (ls : List (List UInt8)) (k : Nat) (h : k < ls.length) : sizeP (ls.take (k + 1)) = sizeP (ls.take k) + (1 + (ls.getD k []).length) := by
  unfold sizeP
  rw [List.take_succ_eq_append_getElem h, List.map_append, List.sum_append, List.getD_eq_getElem?_getD, List.getElem?_eq_getElem h]
  simp
theorem sizeO_succ (os : List OpR) (k : Nat) (h : k < os.length) : sizeO (os.take (k + 1)) = sizeO (os.take k) + sizeP os[k].parts := by
  unfold sizeO
  rw [List.take_succ_eq_append_getElem h, List.map_append, List.sum_append]
  simp
theorem sum_take_le (l : List Nat) (k : Nat) : (l.take k).sum ≤ l.sum := by
  have := congrArg List.sum (List.take_append_drop k l)
  rw [List.sum_append] at this
  omega
theorem sizeP_take (ls : List (List UInt8)) (k : Nat) : sizeP (ls.take k) ≤ sizeP ls := by
  unfold sizeP
  rw [List.map_take]
  exact sum_take_le _ _
theorem sizeO_take (os : List OpR) (k : Nat) : sizeO (os.take k) ≤ sizeO os := by
  unfold sizeO
  rw [List.map_take]
  exact sum_take_le _ _

set_option maxRecDepth 20000 in
set_option maxHeartbeats 1000000 in
theorem great_any (v : Value) (os : List OpR) (B : Nat) (w : World) (h : SegO w B v os) (hs : sizeO os ≤ 2147483648) :
    Calls Try.prog 23 #[v] w fun e w' => e = .returned (.bool (decide (5000 < sizeO os))) ∧ ∃ n, w' = w.drewN n := by
  have h0 := h
  obtain ⟨A, c, rfl, h2, h3, -, -⟩ := h
  have H := Lib.hid h0; clear h0
  have HS := Lib.hid hs; clear hs
  go_enter Try.func23, Try.ntmps23
  go_wp2
  go_loopw [3, 4] (fun s i wr => ∃ k n : Nat, k ≤ os.length ∧ s = .int .i64 (sizeO (os.take k)) ∧ i = .int .i64 k ∧ wr = w.drewN n) (fun _ i _ => os.length - (intOf i).toNat)
  case atStart => exact ⟨0, 0, by omega, rfl, rfl, rfl⟩
  case round =>
    obtain ⟨k, n, hk, rfl, rfl, rfl⟩ := hrel
    by_cases hlt : k < os.length
    · obtain ⟨A', c', e, -, -, hop, hcl⟩ := H.out
      injection e with e1 e2 e3
      subst e1 e3
      obtain ⟨b, off, rfl, hb, hc6⟩ := hcl k hlt
      have hc4 : w.cell? ⟨b, off + k * 6 + 4, none⟩ = some os[k].pv := hc6 4 (by omega)
      obtain ⟨vs, hvl, ⟨A2, c2, hpv, hvc, hvm, hva⟩, hve⟩ := (hop os[k] (List.getElem_mem hlt)).rows
      have HE := Lib.hid (sizeO_succ os k hlt)
      have HT := Lib.hid (sizeO_take os (k + 1))
      generalize os[k].parts = ps at *
      rw [hpv] at hc4
      have HVE := Lib.hid hve; have HVA := Lib.hid hva; have HVL := Lib.hid hvl
      clear hop hcl hc6 hpv hve hva hvl
      have hvm' : c2 ≤ 9223372036854775807 := by simpa [maxLen] using hvm
      go_wp2
      go_loopw [3, 5] (fun s i wr => ∃ j m : Nat, j ≤ vs.length ∧ s = .int .i64 ((sizeO (os.take k) + sizeP (ps.take j) : Nat) : Int) ∧ i = .int .i64 j ∧ wr = w.drewN m) (fun _ i _ => vs.length - (intOf i).toNat)
      case atStart => exact ⟨0, n, by omega, by simp [sizeP], rfl, rfl⟩
      case round =>
        obtain ⟨j, m, hj, rfl, rfl, rfl⟩ := hrel
        by_cases hjl : j < vs.length
        · obtain ⟨b2, off2, rfl, hb2, hcj⟩ := HVA.out (by omega)
          replace hcj := hcj j hjl
          have hvj := HVE.out j (by rw [← HVL.out]; exact hjl)
          have HP := Lib.hid (sizeP_succ ps j (by rw [← HVL.out]; exact hjl))
          have HPT := Lib.hid (sizeP_take ps (j + 1))
          rw [List.getElem?_eq_getElem hjl] at hcj
          have hget : vs.getD j (.bool false) = vs[j] := by simp [List.getD_eq_getElem?_getD, List.getElem?_eq_getElem hjl]
          rw [hget] at hvj
          obtain ⟨A3, c3, hv3, -⟩ := hvj
          rw [byteCells_length] at hv3
          rw [hv3] at hcj
          generalize ps.getD j [] = L at *
          have h1 := HS.out; have h2' := HE.out; have h3' := HT.out; have h4 := HP.out; have h5 := HPT.out
          clear hv3 hget
          go_wp2
          go_roundw
          case rel => exact ⟨j + 1, m, by omega, by congr 1; omega, by go_num, rfl⟩
          case measure => simp [intOf]; omega
        · have hje : j = vs.length := by omega
          have h6 : sizeP (ps.take j) = sizeP ps := by rw [List.take_of_length_le (by rw [← HVL.out]; omega)]
          have h2' := HE.out; have h1 := HS.out; have h3' := HT.out
          go_wp2
          go_roundw
          case rel => exact ⟨k + 1, m, by omega, by congr 1; omega, by go_num, rfl⟩
          case measure => simp [intOf]; omega
    · have hke : os.take k = os := List.take_of_length_le (by omega)
      rw [hke]
      have h1 := HS.out
      have hkl : k = os.length := by omega
      clear hke
      subst hkl
      go_wp2
      go_ret
      refine ⟨ret_bool ?_, _, rfl⟩
      simp
      omega
end Go.Proofs.Ytpdelgjfamelfaa
/- V23 -/
namespace Go.Proofs.Ytpdelgjfamelfaa
open Go.RowKit Go.Lib Go.Vfs Go.Par
set_option linter.unusedVariables false
set_option linter.unusedSimpArgs false

theorem rowE : Elem Try.prog 42 22 (.slice none 0 0) := elem_of (b := 24) Try.underlying42 (by kernel_rfl) (by decide) rfl

/-- what CopyRows has made when it has copied k rows. -/
structure Rowed (w : World) (ls : List (List UInt8)) (k : Nat) (v : Value) (us : List Value) (wr : World) : Prop where
  below : Below w.heap.size w wr
  len : us.length = k
  own : Par.Own wr w.heap.size 22 v us
  cells : ∀ i, i < k → SegS (fun b => w.heap.size ≤ b ∧ b < wr.heap.size ∧ v.ownBlock ≠ some b) wr (us.getD i (.bool false)) (byteCells (ls.getD i []))
theorem one_slices {S : Nat → Prop} {w : World} {l : List UInt8} {u : Value} (h : SegS S w u (byteCells l)) : u.oneCell' = true := by
  obtain ⟨A, c, rfl, -⟩ := h
  rfl

theorem Rowed.next {w : World} {ls : List (List UInt8)} {k : Nat} {v : Value} {us : List Value} {wr w2 w3 : World} (h : Rowed w ls k v us wr) {u : Value} (hb : Below wr.heap.size wr w2) (hu : Par.Own w2 wr.heap.size 5 u (byteCells (ls.getD k [])))
    {v' : Value} (o : Obj) (hown : Par.Own w3 w.heap.size 22 v' (us ++ [u])) (hg : (w2.alloc o).grownBy w3 v.ownBlock) (hat : v'.ownBlock = v.ownBlock ∨ v'.ownBlock = some (w2.heap.size + 1)) : Rowed w ls (k + 1) v' (us ++ [u]) w3 := by
  have hz := h.below.size
  have hz2 := hb.size
  have hv : ∀ g, v.ownBlock = some g → w.heap.size ≤ g ∧ g < wr.heap.size := fun g e => h.own.lt g e
  have hzg := hg.size
  have hal : (w2.alloc o).heap.size = w2.heap.size + 1 := by simp
  have hv' : ∀ b, b < wr.heap.size → v.ownBlock ≠ some b → v'.ownBlock ≠ some b := by
    intro b hlt hne e
    rcases hat with e1 | e1
    · exact hne (e1.symm.trans e)
    · rw [e1] at e; cases e; omega
  refine ⟨?_, by simp [h.len], hown, fun i hi => ?_⟩
  · exact ((h.below.trans (hb.mono hz)).alloc (by omega) o).grown hg (by omega) (fun g e => (hv g e).1)
  · by_cases hik : i < k
    · rw [show (us ++ [u]).getD i (.bool false) = us.getD i (.bool false) by simp [List.getD_eq_getElem?_getD, List.getElem?_append, h.len, hik]]
      refine (h.cells i hik).keep fun b ⟨b1, b2, b3⟩ => ⟨⟨b1, by omega, hv' b b2 b3⟩, ?_⟩
      rw [hg.block b (by omega) (fun e => b3 e.symm), Below.heap_alloc _ _ _ (by omega), hb.block b b2]
    · have : i = k := by omega
      subst this
      rw [show (us ++ [u]).getD i (.bool false) = u by simp [List.getD_eq_getElem?_getD, List.getElem?_append, h.len]]
      have hs := Own.outS hu (F := fun k => k < wr.heap.size) (fun k hk => hk)
      refine hs.keep fun b ⟨b1, b2⟩ => ⟨⟨by omega, by omega, fun e => ?_⟩, ?_⟩
      · rcases hat with e1 | e1
        · have := hv b (e1.symm.trans e); omega
        · rw [e1] at e; cases e; omega
      · rw [hg.block b (by omega) (fun e => by have := hv b e.symm; omega), Below.heap_alloc _ _ _ (by omega)]

set_option maxRecDepth 20000 in
set_option maxHeartbeats 1000000 in
theorem copyRows_any (v : Value) (ls : List (List UInt8)) (B : Nat) (w : World) (hsg : RowsAt (· < B) w v ls) (hB : B ≤ w.heap.size) (hl : ls.length ≤ 1048576) (hll : ∀ l ∈ ls, l.length ≤ 1000000) :
    Calls Try.prog 35 #[v] w fun e w' => ∃ u, e = .returned u ∧ RowsAt (fun b => w.heap.size ≤ b ∧ b < w'.heap.size) w' u ls ∧ Below w.heap.size w w' := by
  obtain ⟨vs, hvl, ⟨A, c, rfl, hc, hm, hat⟩, hrows⟩ := hsg
  have hm' : c ≤ 9223372036854775807 := by simpa [maxLen] using hm
  have HAT := Lib.hid hat; clear hat
  have HR := Lib.hid hrows; clear hrows
  have HVL := Lib.hid hvl; clear hvl
  have HLL := Lib.hid hll; clear hll
  have hown := Par.Own.new w w.heap.size 22 #[] [] rfl (Nat.le_refl _) (by simp)
  have hb0 : Below w.heap.size w (w.alloc (.cells #[] 22)) := (Below.refl _ w).alloc (Nat.le_refl _) _
  have H0 : Hid (Rowed w ls 0 _ [] _) := Lib.hid ⟨hb0, rfl, hown, fun i hi => by omega⟩
  clear hown hb0
  go_enter Try.func35, Try.ntmps35
  go_wp2
  go_loopw [3, 4] (fun s i wr => ∃ (k : Nat) (us : List Value), k ≤ vs.length ∧ i = .int .i64 k ∧ Hid (Rowed w ls k s us wr)) (fun _ i _ => vs.length - (intOf i).toNat)
  case atStart => exact ⟨0, [], by omega, rfl, H0⟩
  case round =>
    obtain ⟨k, us, hk, rfl, HRk⟩ := hrel
    obtain ⟨As, cs, hform⟩ := HRk.out.own.form
    rw [HRk.out.len] at hform
    subst hform
    by_cases hlt : k < vs.length
    · obtain ⟨b, off, rfl, hb, hcell⟩ := HAT.out (by omega)
      have hck : wr.cell? ⟨b, off + k, none⟩ = some (vs.getD k (.bool false)) := by
        rw [HRk.out.below.cell (p := ⟨b, off + k, none⟩) (by show b < _; omega), hcell k hlt, List.getD_eq_getElem?_getD, List.getElem?_eq_getElem hlt]
        rfl
      have hsk : Seg wr B (vs.getD k (.bool false)) (byteCells (ls.getD k [])) := Seg.below (B := B) (HR.out k (by rw [← HVL.out]; exact hlt)) (HRk.out.below.mono hB)
      have hkl : k < ls.length := by rw [← HVL.out]; exact hlt
      have hL : (ls.getD k []).length ≤ 1000000 := by
        rw [List.getD_eq_getElem?_getD, List.getElem?_eq_getElem hkl]
        exact HLL.out _ (List.getElem_mem hkl)
      generalize hLe : ls.getD k [] = L at *
      have HLe := Lib.hid hLe
      have HSK := Lib.hid hsk
      clear hsk hcell hLe
      obtain ⟨Au, cu, hcu, -⟩ := HSK.out
      have hz := HRk.out.below.size
      generalize vs.getD k (.bool false) = u at *
      subst hcu
      go_wp2_with fail
      refine (copyBytes_any _ L B wr HSK.out (by omega) hL).mono ?_
      rintro e w2 ⟨u2, rfl, hu2, hb2⟩
      have hown2 := (HRk.out.own.below hb2).alloc (.cells #[u2] 22)
      have hone := one_slices (Own.outS hu2 (F := fun _ => False) (fun _ h => h.elim))
      have hsg2 := Seg.new w2 22 #[u2] [u2] rfl (by simp [maxLen])
      obtain ⟨A2, c2, hform2⟩ := hu2.form
      have HU2 := Lib.hid hu2; have HB2 := Lib.hid hb2
      have hz2 := hb2.size
      have hlen := HRk.out.len
      have HLEN := Lib.hid hlen
      clear hu2 hb2 HSK
      subst hform2
      go_wp2_with (at_builtin; refine wpList_app _ rfl _ _ _ rfl w.heap.size 22 _ rowE _ _ rfl hown2 _ _ _ rfl hsg2 (fun x hx => by simp at hx; subst hx; exact hone) ?c1 ?c2 ?_)
      case c1 => simp; omega
      case c2 => simp; omega
      intro v3 w3 hown4 hg3 hat3
      have HN := Lib.hid (HRk.out.next HB2.out (by rw [HLe.out]; exact HU2.out) _ hown4 hg3 hat3)
      clear hown4 hg3 hat3
      obtain ⟨A3, c3, hform3⟩ := HN.out.own.form
      subst hform3
      clear HU2 HB2 hown2 hone hsg2
      go_wp2
      go_roundw
      case rel => exact ⟨k + 1, _, by omega, by go_num, HN⟩
      case measure => simp [intOf]; omega
    · have hkl : k = vs.length := by omega
      go_wp2
      go_ret
      refine ⟨_, rfl, ⟨us, by rw [HRk.out.len, hkl, HVL.out], ?_, fun i hi => ?_⟩, HRk.out.below⟩
      · have := Own.outS HRk.out.own (F := fun k => k < w.heap.size) (fun k hk => hk)
        exact this.keep fun b hb => ⟨⟨by have := hb.2; omega, hb.1⟩, rfl⟩
      · exact (HRk.out.cells i (by rw [hkl, HVL.out]; exact hi)).keep fun b hb => ⟨⟨hb.1, hb.2.1⟩, rfl⟩
end Go.Proofs.Ytpdelgjfamelfaa
/- V24 -/
namespace Go.Proofs.Ytpdelgjfamelfaa
open Go.RowKit Go.Lib Go.Vfs Go.Par
set_option linter.unusedVariables false
set_option linter.unusedSimpArgs false

/-- what act does. -/
def actSt (st : St) (o : OpR) : St × Int :=
  if o.what = 1 then stAppend st o.name.data.toList o.parts.flatten
  else if o.what = 2 then stTruncate st o.name.data.toList o.n
  else if o.what = 3 then stRename st o.name.data.toList o.other.data.toList
  else if o.what = 4 then stRemove st o.name.data.toList
  else if o.what = 5 then stSync st o.name.data.toList
  else (st, 0)

theorem OpPost.pre {w w1 w' : World} {p : Nat} {F : Nat → Prop} {r : St × Int} {e : Ending} (hb : Below w.heap.size w w1) (h : OpPost w1 p F r e w') : OpPost w p F r e w' := by
  obtain ⟨F', h1, h2, h3, h4⟩ := h
  exact ⟨F', h1, h2, (Kept.of_below hb).trans' h3, fun k hk => (h4 k hk).imp id (fun h => Nat.le_trans hb.size h)⟩

theorem RowsAt.few {S : Nat → Prop} {w : World} {v : Value} {ls : List (List UInt8)} (h : RowsAt S w v ls) : ∃ A n c, v = .slice A n c := by
  obtain ⟨vs, _, ⟨A, c, h, _⟩, _⟩ := h
  exact ⟨A, _, c, h⟩
theorem mem_flat_le {ls : List (List UInt8)} : ∀ {l : List UInt8}, l ∈ ls → l.length ≤ sizeP ls := by
  induction ls with
  | nil => intro l hl; cases hl
  | cons a r ih =>
    intro l hl
    simp only [sizeP, List.map_cons, List.sum_cons] at ih ⊢
    rcases List.mem_cons.1 hl with rfl | hl
    · omega
    · have := ih hl; omega
theorem length_sizeP (ls : List (List UInt8)) : ls.length ≤ sizeP ls := by
  induction ls with
  | nil => simp
  | cons a l ih => simp only [sizeP, List.map_cons, List.sum_cons, List.length_cons] at ih ⊢; omega
theorem flat_sizeP (ls : List (List UInt8)) : ls.flatten.length ≤ sizeP ls := by
  induction ls with
  | nil => simp
  | cons a l ih => simp only [sizeP, List.map_cons, List.sum_cons, List.flatten_cons, List.length_append] at ih ⊢; omega

theorem act_box {w w2 : World} {cs : Array Value} {t : TypeId} {i : Nat} {v : Value} {W : World} (hb : Below W.heap.size W w2) (hW : W = (w.alloc (.cells cs t)).drew) (hc : cs[i]? = some v) : w2.cell? ⟨w.heap.size, i, none⟩ = some v := by
  subst hW
  rw [hb.cell (p := ⟨w.heap.size, i, none⟩) (by show _ < (w.alloc _).heap.size; simp)]
  show (w.alloc _).cell? _ = _
  rw [World.cell?_alloc_mark]
  exact hc
theorem act_below {w w2 : World} {o : Obj} (hb : Below ((w.alloc o).drew).heap.size (w.alloc o).drew w2) : Below w.heap.size w w2 := by
  have h0 : Below w.heap.size w (w.alloc o).drew := ((Below.refl _ w).alloc (Nat.le_refl _) _).drew
  exact h0.trans (hb.mono h0.size)
theorem act_rows {w w2 : World} {p : Nat} {st : St} {F : Nat → Prop} {o : Obj} {u : Value} {ls : List (List UInt8)} (h : Fsy w p st F) (hu : RowsAt (fun b => ((w.alloc o).drew).heap.size ≤ b ∧ b < w2.heap.size) w2 u ls) (hb : Below ((w.alloc o).drew).heap.size (w.alloc o).drew w2) : RowsAt (Out w2 F) w2 u ls :=
  hu.keep fun b hb' => ⟨⟨hb'.2, fun hf => by
    have h1 := h.lt b hf
    have h2 : w.heap.size ≤ (w.alloc o).drew.heap.size := by show _ ≤ (w.alloc _).heap.size; simp
    have := hb'.1; omega⟩, rfl⟩
theorem act_modest {st : St} {ls : List (List UInt8)} (h : Modest st (sizeP ls)) : Modest st ls.flatten.length := by
  have := flat_sizeP ls
  obtain ⟨h1, h2, h3, h4⟩ := h
  exact ⟨fun f hf => by have := h1 f hf; omega, by omega, h3, h4⟩

set_option maxRecDepth 20000 in
set_option maxHeartbeats 1000000 in
theorem act_app (w : World) (p : Nat) (st : St) (F : Nat → Prop) (h : Fsy w p st F) (o : OpR) (B : Nat) (hB : B ≤ w.heap.size) (hF : ∀ k, F k → B ≤ k) (ho : OpAt w B o) (hm : Modest st (sizeP o.parts)) (hp : sizeP o.parts ≤ 1000000) (hw : o.what = 1) :
    Calls Try.prog 27 #[.pointer (some ⟨p, 0, none⟩), .agg #[.int .i64 o.what, .int .i64 o.n, .string o.name, .string o.other, o.pv, o.kv]] w (OpPost w p F (actSt st o)) := by
  have hst : actSt st o = stAppend st o.name.data.toList o.parts.flatten := by unfold actSt; rw [if_pos hw]
  rw [hst]
  obtain ⟨what, n, name, other, pv, kv, parts, keeps⟩ := o
  have hw' : what = 1 := hw
  subst hw'
  obtain ⟨hrow, hints, hname, hother, hfew⟩ := ho
  simp only at hrow hints hname hother hfew hm hp ⊢
  obtain ⟨A1, n1, c1, hpv⟩ := hrow.few
  obtain ⟨A2, c2, hkv, -⟩ := hints
  have HR := Lib.hid hrow; have HF := Lib.hid h
  clear hrow h hst hw
  subst hpv hkv
  generalize hkl : (ints keeps).length = kl
  clear hkl
  have hcp : ∀ W, Below w.heap.size w W → Calls Try.prog 35 #[.slice A1 n1 c1] W fun e w' => ∃ u, e = .returned u ∧ RowsAt (fun b => W.heap.size ≤ b ∧ b < w'.heap.size) w' u parts ∧ Below W.heap.size W w' := fun W hb => copyRows_any (.slice A1 n1 c1) parts B W (HR.out.keep fun b hk => ⟨hk, (hb.mono hB).block b hk⟩) (Nat.le_trans hB hb.size) (by have := length_sizeP parts; omega) (fun l hl => by have := mem_flat_le hl; omega)
  have HCP := Lib.hid hcp; clear hcp
  go_enter Try.func27, Try.ntmps27
  go_wp2_with fail
  go_region_with (first
    | (go_at_call 35; refine (HCP.out _ (((Below.refl _ w).alloc (Nat.le_refl _) _).drew)).mono ?_; rintro e w2 ⟨u, rfl, hu, hb2⟩; obtain ⟨Au, nu, cu, rfl⟩ := hu.few; have HU := Lib.hid hu; have HB2 := Lib.hid hb2; clear hu hb2; have hc2 : w2.cell? ⟨w.heap.size, 2, none⟩ = some (.string name) := act_box HB2.out rfl rfl)
    | (go_at_call 17; refine (append_any w2 p st F (HF.out.below (act_below HB2.out)) name hname _ parts (act_rows HF.out HU.out HB2.out) (act_modest hm)).mono ?_; rintro e w3 ⟨F3, rfl, h1, h2, h3⟩))
  all_goals (
    go_wp2
    go_ret
    exact OpPost.pre (act_below HB2.out) ⟨F3, rfl, h1, h2, h3⟩)
end Go.Proofs.Ytpdelgjfamelfaa
/- V25 -/
namespace Go.Proofs.Ytpdelgjfamelfaa
open Go.RowKit Go.Lib Go.Vfs Go.Par
set_option linter.unusedVariables false
set_option linter.unusedSimpArgs false

theorem box_below (w : World) (o : Obj) : Below w.heap.size w (w.alloc o) := (Below.refl _ w).alloc (Nat.le_refl _) _

set_option maxRecDepth 20000 in
set_option maxHeartbeats 1000000 in
theorem act_trunc (w : World) (p : Nat) (st : St) (F : Nat → Prop) (h : Fsy w p st F) (o : OpR) (B : Nat) (ho : OpAt w B o) (hpw : st.power ≤ 9223372036854775807) (hfl : st.files.length < 2147483648) (hw : o.what = 2) :
    Calls Try.prog 27 #[.pointer (some ⟨p, 0, none⟩), .agg #[.int .i64 o.what, .int .i64 o.n, .string o.name, .string o.other, o.pv, o.kv]] w (OpPost w p F (actSt st o)) := by
  have hst : actSt st o = stTruncate st o.name.data.toList o.n := by unfold actSt; rw [hw]; rfl
  rw [hst]
  obtain ⟨what, n, name, other, pv, kv, parts, keeps⟩ := o
  have hw' : what = 2 := hw
  subst hw'
  obtain ⟨hrow, hints, hname, hother, hfew⟩ := ho
  simp only at hrow hints hname hother hfew ⊢
  obtain ⟨A1, n1, c1, hpv⟩ := hrow.few
  obtain ⟨A2, c2, hkv, -⟩ := hints
  have HF := Lib.hid h
  clear hrow h hst hw
  subst hpv hkv
  generalize hkl : (ints keeps).length = kl
  clear hkl
  go_enter Try.func27, Try.ntmps27
  go_wp2_with fail
  refine (truncate_any _ p st F (HF.out.below (box_below w _)) name hname hpw n).mono ?_
  rintro e w3 ⟨F3, rfl, h1, h2, h3⟩
  go_wp2
  go_ret
  exact OpPost.pre (box_below w _) ⟨F3, rfl, h1, h2, h3⟩

set_option maxRecDepth 20000 in
set_option maxHeartbeats 1000000 in
theorem act_rename (w : World) (p : Nat) (st : St) (F : Nat → Prop) (h : Fsy w p st F) (o : OpR) (B : Nat) (ho : OpAt w B o) (hpw : st.power ≤ 9223372036854775807) (hfl : st.files.length < 2147483648) (hw : o.what = 3) :
    Calls Try.prog 27 #[.pointer (some ⟨p, 0, none⟩), .agg #[.int .i64 o.what, .int .i64 o.n, .string o.name, .string o.other, o.pv, o.kv]] w (OpPost w p F (actSt st o)) := by
  have hst : actSt st o = stRename st o.name.data.toList o.other.data.toList := by unfold actSt; rw [hw]; rfl
  rw [hst]
  obtain ⟨what, n, name, other, pv, kv, parts, keeps⟩ := o
  have hw' : what = 3 := hw
  subst hw'
  obtain ⟨hrow, hints, hname, hother, hfew⟩ := ho
  simp only at hrow hints hname hother hfew ⊢
  obtain ⟨A1, n1, c1, hpv⟩ := hrow.few
  obtain ⟨A2, c2, hkv, -⟩ := hints
  have HF := Lib.hid h
  clear hrow h hst hw
  subst hpv hkv
  generalize hkl : (ints keeps).length = kl
  clear hkl
  go_enter Try.func27, Try.ntmps27
  go_wp2_with fail
  refine (rename_any _ p st F (HF.out.below (box_below w _)) name other hname hother hpw hfl).mono ?_
  rintro e w3 ⟨F3, rfl, h1, h2, h3⟩
  go_wp2
  go_ret
  exact OpPost.pre (box_below w _) ⟨F3, rfl, h1, h2, h3⟩

set_option maxRecDepth 20000 in
set_option maxHeartbeats 1000000 in
theorem act_remove (w : World) (p : Nat) (st : St) (F : Nat → Prop) (h : Fsy w p st F) (o : OpR) (B : Nat) (ho : OpAt w B o) (hpw : st.power ≤ 9223372036854775807) (hfl : st.files.length < 2147483648) (hw : o.what = 4) :
    Calls Try.prog 27 #[.pointer (some ⟨p, 0, none⟩), .agg #[.int .i64 o.what, .int .i64 o.n, .string o.name, .string o.other, o.pv, o.kv]] w (OpPost w p F (actSt st o)) := by
  have hst : actSt st o = stRemove st o.name.data.toList := by unfold actSt; rw [hw]; rfl
  rw [hst]
  obtain ⟨what, n, name, other, pv, kv, parts, keeps⟩ := o
  have hw' : what = 4 := hw
  subst hw'
  obtain ⟨hrow, hints, hname, hother, hfew⟩ := ho
  simp only at hrow hints hname hother hfew ⊢
  obtain ⟨A1, n1, c1, hpv⟩ := hrow.few
  obtain ⟨A2, c2, hkv, -⟩ := hints
  have HF := Lib.hid h
  clear hrow h hst hw
  subst hpv hkv
  generalize hkl : (ints keeps).length = kl
  clear hkl
  go_enter Try.func27, Try.ntmps27
  go_wp2_with fail
  refine (remove_any _ p st F (HF.out.below (box_below w _)) name hname hpw).mono ?_
  rintro e w3 ⟨F3, rfl, h1, h2, h3⟩
  go_wp2
  go_ret
  exact OpPost.pre (box_below w _) ⟨F3, rfl, h1, h2, h3⟩

set_option maxRecDepth 20000 in
set_option maxHeartbeats 1000000 in
theorem act_sync (w : World) (p : Nat) (st : St) (F : Nat → Prop) (h : Fsy w p st F) (o : OpR) (B : Nat) (ho : OpAt w B o) (hpw : st.power ≤ 9223372036854775807) (hfl : st.files.length < 2147483648) (hw : o.what = 5) :
    Calls Try.prog 27 #[.pointer (some ⟨p, 0, none⟩), .agg #[.int .i64 o.what, .int .i64 o.n, .string o.name, .string o.other, o.pv, o.kv]] w (OpPost w p F (actSt st o)) := by
  have hst : actSt st o = stSync st o.name.data.toList := by unfold actSt; rw [hw]; rfl
  rw [hst]
  obtain ⟨what, n, name, other, pv, kv, parts, keeps⟩ := o
  have hw' : what = 5 := hw
  subst hw'
  obtain ⟨hrow, hints, hname, hother, hfew⟩ := ho
  simp only at hrow hints hname hother hfew ⊢
  obtain ⟨A1, n1, c1, hpv⟩ := hrow.few
  obtain ⟨A2, c2, hkv, -⟩ := hints
  have HF := Lib.hid h
  clear hrow h hst hw
  subst hpv hkv
  generalize hkl : (ints keeps).length = kl
  clear hkl
  go_enter Try.func27, Try.ntmps27
  go_wp2_with fail
  refine (sync_any _ p st F (HF.out.below (box_below w _)) name hname hpw).mono ?_
  rintro e w3 ⟨F3, rfl, h1, h2, h3⟩
  go_wp2
  go_ret
  exact OpPost.pre (box_below w _) ⟨F3, rfl, h1, h2, h3⟩

set_option maxRecDepth 20000 in
set_option maxHeartbeats 1000000 in
theorem act_other (w : World) (p : Nat) (st : St) (F : Nat → Prop) (h : Fsy w p st F) (o : OpR) (B : Nat) (ho : OpAt w B o) (h1 : ¬ o.what = 1) (h2 : ¬ o.what = 2) (h3 : ¬ o.what = 3) (h4 : ¬ o.what = 4) (h5 : ¬ o.what = 5) :
    Calls Try.prog 27 #[.pointer (some ⟨p, 0, none⟩), .agg #[.int .i64 o.what, .int .i64 o.n, .string o.name, .string o.other, o.pv, o.kv]] w (OpPost w p F (actSt st o)) := by
  have hst : actSt st o = (st, 0) := by unfold actSt; rw [if_neg h1, if_neg h2, if_neg h3, if_neg h4, if_neg h5]
  rw [hst]
  obtain ⟨what, n, name, other, pv, kv, parts, keeps⟩ := o
  obtain ⟨hrow, hints, hname, hother, hfew⟩ := ho
  simp only at hrow hints hname hother hfew h1 h2 h3 h4 h5 ⊢
  obtain ⟨A1, n1, c1, hpv⟩ := hrow.few
  obtain ⟨A2, c2, hkv, -⟩ := hints
  have HF := Lib.hid h
  clear hrow h hst
  subst hpv hkv
  generalize hkl : (ints keeps).length = kl
  clear hkl
  go_enter Try.func27, Try.ntmps27
  go_wp2
  go_ret
  exact OpPost.same HF.out (box_below w _)

theorem act_any (w : World) (p : Nat) (st : St) (F : Nat → Prop) (h : Fsy w p st F) (o : OpR) (B : Nat) (hB : B ≤ w.heap.size) (hF : ∀ k, F k → B ≤ k) (ho : OpAt w B o) (hm : Modest st (sizeP o.parts)) (hp : sizeP o.parts ≤ 1000000) :
    Calls Try.prog 27 #[.pointer (some ⟨p, 0, none⟩), .agg #[.int .i64 o.what, .int .i64 o.n, .string o.name, .string o.other, o.pv, o.kv]] w (OpPost w p F (actSt st o)) := by
  have hpw := hm.2.2.2
  have hfl := hm.2.2.1
  by_cases h1 : o.what = 1
  · exact act_app w p st F h o B hB hF ho hm hp h1
  by_cases h2 : o.what = 2
  · exact act_trunc w p st F h o B ho hpw hfl h2
  by_cases h3 : o.what = 3
  · exact act_rename w p st F h o B ho hpw hfl h3
  by_cases h4 : o.what = 4
  · exact act_remove w p st F h o B ho hpw hfl h4
  by_cases h5 : o.what = 5
  · exact act_sync w p st F h o B ho hpw hfl h5
  exact act_other w p st F h o B ho h1 h2 h3 h4 h5
end Go.Proofs.Ytpdelgjfamelfaa
/- V26 -/
/- Plain: what a call does to the files, whatever the power; bounds; two file systems side by side. -/
namespace Go.Proofs.Ytpdelgjfamelfaa
open Go.RowKit Go.Lib Go.Vfs Go.Par
set_option linter.unusedVariables false
set_option linter.unusedSimpArgs false

/-- what a call answers where the power lasts: an error, or the files behind it. -/
def actF (fs : List File) (o : OpR) : Except Int (List File) :=
  if o.what = 1 then (if nameB o.name.data.toList then .ok (appF o.name.data.toList o.parts.flatten fs) else .error 10)
  else if o.what = 2 then (match stFind ⟨0, fs⟩ o.name.data.toList with | .error e => .error e | .ok f => if o.n < 0 ∨ (f.data.length : Int) < o.n then .error 12 else .ok (withL File.name ⟨f.name, f.data.take o.n.toNat, min f.safe o.n.toNat⟩ fs))
  else if o.what = 3 then (if nameB o.name.data.toList && nameB o.other.data.toList then (match stFind ⟨0, fs⟩ o.name.data.toList with | .error e => .error e | .ok f => .ok (withL File.name ⟨o.other.data.toList, f.data, f.safe⟩ (dropL File.name o.name.data.toList fs))) else .error 10)
  else if o.what = 4 then (match stFind ⟨0, fs⟩ o.name.data.toList with | .error e => .error e | .ok f => .ok (dropL File.name o.name.data.toList fs))
  else (match stFind ⟨0, fs⟩ o.name.data.toList with | .error e => .error e | .ok f => .ok (withL File.name ⟨f.name, f.data, f.data.length⟩ fs))

theorem find_pow (p q : Int) (fs : List File) (s : List UInt8) : stFind ⟨p, fs⟩ s = stFind ⟨q, fs⟩ s := rfl
theorem find_err {st : St} {s : List UInt8} {e : Int} (h : stFind st s = .error e) : e ≠ 0 := by
  unfold stFind at h
  split at h
  · split at h
    · cases h
    · cases h; decide
  · cases h; decide
theorem find_ok {st : St} {s : List UInt8} {f : File} (h : stFind st s = .ok f) : f ∈ st.files ∧ f.name = s ∧ nameB s = true := by
  unfold stFind at h
  split at h
  · rename_i hn
    split at h
    · rename_i g hg
      cases h
      have := findL_some hg
      exact ⟨this.1, this.2, hn⟩
    · cases h
  · cases h

/-- a call of the five. -/
def Call (o : OpR) : Prop := 1 ≤ o.what ∧ o.what ≤ 5
theorem actSt_err {fs : List File} {o : OpR} (hc : Call o) {e : Int} (h : actF fs o = .error e) (p : Int) : actSt ⟨p, fs⟩ o = (⟨p, fs⟩, e) ∧ e ≠ 0 := by
  obtain ⟨c1, c2⟩ := hc
  unfold actF at h
  unfold actSt
  by_cases h1 : o.what = 1
  · rw [if_pos h1] at h ⊢
    unfold stAppend
    split at h
    · cases h
    · rename_i hn; cases h; rw [if_neg hn]; exact ⟨rfl, by decide⟩
  rw [if_neg h1] at h ⊢
  by_cases h2 : o.what = 2
  · rw [if_pos h2] at h ⊢
    unfold stTruncate
    rw [find_pow p 0]
    split at h
    · rename_i hf; cases h; exact ⟨by rw [hf], find_err hf⟩
    · rename_i hf
      split at h
      · rename_i hr; cases h; rw [hf]; simp only []; rw [if_pos hr]; exact ⟨rfl, by decide⟩
      · cases h
  rw [if_neg h2] at h ⊢
  by_cases h3 : o.what = 3
  · rw [if_pos h3] at h ⊢
    unfold stRename
    rw [find_pow p 0]
    split at h
    · rename_i hn
      rw [if_pos hn]
      split at h
      · rename_i hf; cases h; exact ⟨by rw [hf], find_err hf⟩
      · cases h
    · rename_i hn; cases h; rw [if_neg hn]; exact ⟨rfl, by decide⟩
  rw [if_neg h3] at h ⊢
  by_cases h4 : o.what = 4
  · rw [if_pos h4] at h ⊢
    unfold stRemove
    rw [find_pow p 0]
    split at h
    · rename_i hf; cases h; exact ⟨by rw [hf], find_err hf⟩
    · cases h
  rw [if_neg h4] at h ⊢
  rw [if_pos (by omega)]
  unfold stSync
  rw [find_pow p 0]
  split at h
  · rename_i hf; cases h; exact ⟨by rw [hf], find_err hf⟩
  · cases h
theorem actSt_ok {fs fs' : List File} {o : OpR} (hc : Call o) (h : actF fs o = .ok fs') (p : Int) : actSt ⟨p, fs⟩ o = doSt ⟨p, fs⟩ fs' := by
  obtain ⟨c1, c2⟩ := hc
  unfold actF at h
  unfold actSt
  by_cases h1 : o.what = 1
  · rw [if_pos h1] at h ⊢
    unfold stAppend
    split at h
    · rename_i hn; cases h; rw [if_pos hn]
    · cases h
  rw [if_neg h1] at h ⊢
  by_cases h2 : o.what = 2
  · rw [if_pos h2] at h ⊢
    unfold stTruncate
    rw [find_pow p 0]
    split at h
    · cases h
    · rename_i hf
      split at h
      · cases h
      · rename_i hr; cases h; rw [hf]; simp only []; rw [if_neg hr]
  rw [if_neg h2] at h ⊢
  by_cases h3 : o.what = 3
  · rw [if_pos h3] at h ⊢
    unfold stRename
    rw [find_pow p 0]
    split at h
    · rename_i hn
      rw [if_pos hn]
      split at h
      · cases h
      · rename_i hf; cases h; rw [hf]
    · cases h
  rw [if_neg h3] at h ⊢
  by_cases h4 : o.what = 4
  · rw [if_pos h4] at h ⊢
    unfold stRemove
    rw [find_pow p 0]
    split at h
    · cases h
    · rename_i hf; cases h; rw [hf]
  rw [if_neg h4] at h ⊢
  rw [if_pos (by omega)]
  unfold stSync
  rw [find_pow p 0]
  split at h
  · cases h
  · rename_i hf; cases h; rw [hf]
theorem actSt_no {st : St} {o : OpR} (h : ¬ Call o) : actSt st o = (st, 0) := by
  unfold Call at h
  unfold actSt
  rw [if_neg (by omega), if_neg (by omega), if_neg (by omega), if_neg (by omega), if_neg (by omega)]

/-- few files, of short names, of few bytes. -/
structure Calm (fs : List File) (k d : Nat) : Prop where
  files : fs.length ≤ k
  names : ∀ f ∈ fs, nameB f.name = true
  data : ∀ f ∈ fs, f.data.length ≤ d
  safe : ∀ f ∈ fs, f.safe ≤ f.data.length
theorem Calm.nil : Calm [] 0 0 := ⟨by simp, by simp, by simp, by simp⟩
theorem Calm.mono {fs : List File} {k d k' d' : Nat} (h : Calm fs k d) (hk : k ≤ k') (hd : d ≤ d') : Calm fs k' d' := ⟨Nat.le_trans h.files hk, h.names, fun f hf => Nat.le_trans (h.data f hf) hd, h.safe⟩
theorem Calm.withL {fs : List File} {k d : Nat} (h : Calm fs k d) {f : File} (hn : nameB f.name = true) (hd : f.data.length ≤ d) (hs : f.safe ≤ f.data.length) : Calm (withL File.name f fs) (k + 1) d := by
  refine ⟨?_, fun g hg => ?_, fun g hg => ?_, fun g hg => ?_⟩
  · have := length_withL' (key := File.name) f fs; have := h.files; omega
  · rcases mem_withL.1 hg with rfl | ⟨hg, -⟩; exact hn; exact h.names g hg
  · rcases mem_withL.1 hg with rfl | ⟨hg, -⟩; exact hd; exact h.data g hg
  · rcases mem_withL.1 hg with rfl | ⟨hg, -⟩; exact hs; exact h.safe g hg
theorem Calm.dropL {fs : List File} {k d : Nat} (h : Calm fs k d) (s : List UInt8) : Calm (dropL File.name s fs) k d :=
  ⟨Nat.le_trans (List.length_filter_le _ _) h.files, fun g hg => h.names g (mem_dropL.1 hg).1, fun g hg => h.data g (mem_dropL.1 hg).1, fun g hg => h.safe g (mem_dropL.1 hg).1⟩
theorem Calm.app {fs : List File} {k d : Nat} (h : Calm fs k d) {s L : List UInt8} (hn : nameB s = true) : Calm (appF s L fs) (k + 1) (d + L.length) := by
  unfold appF
  refine (h.mono (Nat.le_refl _) (Nat.le_add_right d L.length)).withL ?_ ?_ ?_
  · split <;> exact hn
  · split
    · rename_i f hf; have := h.data f (findL_some hf).1; simp; omega
    · simp
  · split
    · rename_i f hf; have := h.safe f (findL_some hf).1; simp; omega
    · simp
theorem Calm.actF {fs fs' : List File} {k d : Nat} (h : Calm fs k d) {o : OpR} (ho : actF fs o = .ok fs') : Calm fs' (k + 1) (d + o.parts.flatten.length) := by
  have hle : d ≤ d + o.parts.flatten.length := Nat.le_add_right _ _
  have hm := h.mono (Nat.le_refl _) hle
  unfold Ytpdelgjfamelfaa.actF at ho
  split at ho
  · split at ho
    · rename_i hn; cases ho; exact h.app hn
    · cases ho
  split at ho
  · split at ho
    · cases ho
    · rename_i f hf
      obtain ⟨f1, f2, f3⟩ := find_ok hf
      split at ho
      · cases ho
      · cases ho
        have := hm.data f f1
        have := hm.safe f f1
        exact hm.withL (hm.names f f1) (by simp only [List.length_take]; omega) (by simp only [List.length_take]; omega)
  split at ho
  · split at ho
    · rename_i hn
      split at ho
      · cases ho
      · rename_i f hf
        obtain ⟨f1, f2, f3⟩ := find_ok hf
        cases ho
        simp at hn
        exact (hm.dropL _).withL hn.2 (hm.data f f1) (hm.safe f f1)
    · cases ho
  split at ho
  · split at ho
    · cases ho
    · cases ho; exact (hm.dropL _).mono (by omega) (Nat.le_refl _)
  split at ho
  · cases ho
  · rename_i f hf
    obtain ⟨f1, f2, f3⟩ := find_ok hf
    cases ho
    exact hm.withL (hm.names f f1) (hm.data f f1) (Nat.le_refl _)
theorem Calm.act {st : St} {k d : Nat} (h : Calm st.files k d) (o : OpR) : Calm (actSt st o).1.files (k + 1) (d + o.parts.flatten.length) := by
  by_cases hc : Call o
  · cases hf : Ytpdelgjfamelfaa.actF st.files o with
    | error e => rw [(actSt_err (fs := st.files) hc hf st.power).1]; exact h.mono (by omega) (by omega)
    | ok fs' =>
      rw [actSt_ok (fs := st.files) hc hf st.power]
      unfold doSt
      split
      · exact h.mono (by omega) (by omega)
      · exact h.actF hf
  · rw [actSt_no hc]; exact h.mono (by omega) (by omega)
theorem power_act (st : St) (o : OpR) : (actSt st o).1.power = st.power ∨ (actSt st o).1.power = dec st.power := by
  by_cases hc : Call o
  · cases hf : actF st.files o with
    | error e => left; rw [(actSt_err (fs := st.files) hc hf st.power).1]
    | ok fs' =>
      rw [actSt_ok (fs := st.files) hc hf st.power]
      unfold doSt
      split
      · exact .inl rfl
      · exact .inr rfl
  · left; rw [actSt_no hc]
theorem power_le (st : St) (o : OpR) (h : st.power ≤ 9223372036854775807) : (actSt st o).1.power ≤ 9223372036854775807 := by
  rcases power_act st o with e | e <;> rw [e]
  · exact h
  · unfold dec; split <;> omega
theorem Calm.modest {st : St} {k d n : Nat} (h : Calm st.files k d) (hp : st.power ≤ 9223372036854775807) (hk : k < 2147483648) (hd : d + n ≤ 2147483648) : Modest st n :=
  ⟨fun f hf => by have := h.data f hf; omega, by omega, by have := h.files; omega, hp⟩

/-- two file systems side by side, new since B. -/
structure Two (B : Nat) (w0 w : World) (p : Nat) (st : St) (F : Nat → Prop) (q : Nat) (st' : St) (G : Nat → Prop) : Prop where
  one : Held B w0 w p st F
  two : Fsy w q st' G
  new : ∀ k, G k → B ≤ k
  apart : ∀ k, F k → ¬ G k
theorem Two.swap {B : Nat} {w0 w : World} {p : Nat} {st : St} {F : Nat → Prop} {q : Nat} {st' : St} {G : Nat → Prop} (h : Two B w0 w p st F q st' G) : Two B w0 w q st' G p st F :=
  ⟨⟨h.two, h.new, h.one.below⟩, h.one.fs, h.one.new, fun k hg hf => h.apart k hf hg⟩
theorem Two.op {B : Nat} {w0 w w' : World} {p : Nat} {st st2 : St} {F F' : Nat → Prop} {q : Nat} {st' : St} {G : Nat → Prop} (h : Two B w0 w p st F q st' G) (hB : B ≤ w0.heap.size) (h1 : Fsy w' p st2 F') (h2 : Kept F w w') (h3 : Grows w F F') : Two B w0 w' p st2 F' q st' G :=
  ⟨h.one.op hB h1 h2 h3, h.two.keep fun k hk => h2.block k (h.two.lt k hk) (fun hf => h.apart k hf hk), h.new, fun k hf hg => by
    rcases h3 k hf with a | a
    · exact h.apart k a hg
    · have := h.two.lt k hg; omega⟩
theorem Two.go {B : Nat} {w0 w w' : World} {p : Nat} {st : St} {F : Nat → Prop} {q : Nat} {st' : St} {G : Nat → Prop} (h : Two B w0 w p st F q st' G) (hB : B ≤ w0.heap.size) (hb : Below w.heap.size w w') : Two B w0 w' p st F q st' G :=
  ⟨h.one.go hB hb, h.two.below hb, h.new, h.apart⟩
end Go.Proofs.Ytpdelgjfamelfaa
/- V27 -/
namespace Go.Proofs.Ytpdelgjfamelfaa
open Go.RowKit Go.Lib Go.Vfs Go.Par
set_option linter.unusedVariables false
set_option linter.unusedSimpArgs false

/-- the cells of an Op in a block. -/
def Six (w : World) (b off : Nat) (o : OpR) : Prop :=
  w.cell? ⟨b, off + 0, none⟩ = some (.int .i64 o.what) ∧ w.cell? ⟨b, off + 1, none⟩ = some (.int .i64 o.n) ∧ w.cell? ⟨b, off + 2, none⟩ = some (.string o.name) ∧ w.cell? ⟨b, off + 3, none⟩ = some (.string o.other) ∧ w.cell? ⟨b, off + 4, none⟩ = some o.pv ∧ w.cell? ⟨b, off + 5, none⟩ = some o.kv
theorem SegO.six {w : World} {B : Nat} {A : Option Addr} {n c : Nat} {os : List OpR} (h : SegO w B (.slice A n c) os) (k : Nat) (hk : k < os.length) : ∃ b off, A = some ⟨b, off, none⟩ ∧ b < B ∧ Six w b (off + k * 6) os[k] := by
  obtain ⟨A', c', e, h2, h3, h4, h5⟩ := h
  injection e with e1 e2 e3
  subst e1 e3
  obtain ⟨b, off, e, hb, hc⟩ := h5 k hk
  exact ⟨b, off, e, hb, hc 0 (by omega), hc 1 (by omega), hc 2 (by omega), hc 3 (by omega), hc 4 (by omega), hc 5 (by omega)⟩
theorem SegO.form {w : World} {B : Nat} {v : Value} {os : List OpR} (h : SegO w B v os) : ∃ A c, v = .slice A os.length c ∧ os.length ≤ c ∧ c ≤ 9223372036854775807 := by
  obtain ⟨A, c, h1, h2, h3, -⟩ := h
  exact ⟨A, c, h1, h2, h3⟩
theorem SegO.op {w : World} {B : Nat} {v : Value} {os : List OpR} (h : SegO w B v os) (k : Nat) (hk : k < os.length) : OpAt w B os[k] := by
  obtain ⟨A, c, h1, h2, h3, h4, -⟩ := h
  exact h4 _ (List.getElem_mem hk)
theorem OpAt.forms {w : World} {B : Nat} {o : OpR} (h : OpAt w B o) : (∃ A n c, o.pv = .slice A n c) ∧ ∃ A n c, o.kv = .slice A n c := by
  obtain ⟨h1, ⟨A, c, h2, -⟩, -⟩ := h
  exact ⟨h1.few, A, _, c, h2⟩
theorem Six.kept {w w' : World} {F : Nat → Prop} {b off : Nat} {o : OpR} (h : Six w b off o) (hk : Kept F w w') (hb : b < w.heap.size) (hn : ¬ F b) : Six w' b off o := by
  have e : ∀ i, w'.cell? ⟨b, i, none⟩ = w.cell? ⟨b, i, none⟩ := fun i => hk.cell (p := ⟨b, i, none⟩) hb hn
  unfold Six
  simp only [e]
  exact h

theorem sizeO_nth (os : List OpR) (k : Nat) (hk : k < os.length) : sizeO (os.take k) + sizeP os[k].parts ≤ sizeO os := by
  rw [← sizeO_succ os k hk]
  exact sizeO_take os _
theorem cells_alloc6 (w : World) (o : OpR) (t : TypeId) : Six (w.alloc (.cells #[.int .i64 o.what, .int .i64 o.n, .string o.name, .string o.other, o.pv, o.kv] t)) w.heap.size 0 o := by
  unfold Six
  simp [World.cell?_alloc_mark]

/-- where the loop of VfsPower stands. -/
structure PowI (W w : World) (os : List OpR) (power : Int) (k : Nat) (p : Nat) (F : Nat → Prop) (q : Nat) (G : Nat → Prop) (left : Int) (fs : List File) : Prop where
  two : Two W.heap.size W w p ⟨left, fs⟩ F q ⟨-1, fs⟩ G
  calm : Calm fs k (sizeO (os.take k))
  left0 : 0 ≤ left
  left1 : left ≤ 9223372036854775807

theorem SegO.same {w w' : World} {B : Nat} {v : Value} {os : List OpR} (h : SegO w B v os) (hk : ∀ b, b < B → w'.heap[b]? = w.heap[b]?) : SegO w' B v os := by
  obtain ⟨A, c, h1, h2, h3, h4, h5⟩ := h
  have hc : ∀ b o, b < B → w'.cell? ⟨b, o, none⟩ = w.cell? ⟨b, o, none⟩ := fun b o hb => World.cell?_of_block (a := ⟨b, o, none⟩) (hk b hb)
  refine ⟨A, c, h1, h2, h3, fun o ho => ?_, fun i hi => ?_⟩
  · have ho' := h4 o ho
    exact ⟨ho'.rows.keep fun b hb => ⟨hb, hk b hb⟩, ho'.ints.keep fun b o hb => hc b o hb, ho'.name, ho'.other, ho'.few⟩
  · obtain ⟨b, off, e, hbb, hcc⟩ := h5 i hi
    exact ⟨b, off, e, hbb, fun j hj => by rw [hc b _ hbb]; exact hcc j hj⟩
theorem SegO.back {w w' : World} {B : Nat} {v : Value} {os : List OpR} (h : SegO w' B v os) (hb : Below B w w') : SegO w B v os := h.same fun b hlt => (hb.block b hlt).symm

theorem PowI.same {W w w' : World} {os : List OpR} {power : Int} {k p : Nat} {F F' : Nat → Prop} {q : Nat} {G G' : Nat → Prop} {left : Int} {fs : List File} (h : PowI W w os power k p F q G left fs) (h2 : Two W.heap.size W w' p ⟨left, fs⟩ F' q ⟨-1, fs⟩ G') (hk : k < os.length) : PowI W w' os power (k + 1) p F' q G' left fs :=
  ⟨h2, h.calm.mono (by omega) (by rw [sizeO_succ os k hk]; omega), h.left0, h.left1⟩
theorem dec_le (x : Int) : dec x ≤ x := by unfold dec; split <;> omega
end Go.Proofs.Ytpdelgjfamelfaa
