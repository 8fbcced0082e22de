/- Merged of V16 V17 VP V18 V19 VA V20 V21 V22 V23 V24 V25 V26 V27. -/
import Derived.Test.YtpdelgjfamelfaaGreatM2
import Derived.Lib.SmallJoins
import Derived.Lib.SlBytesConst
import Derived.HandedShaped
import Derived.Deep.RegionWith
/- V16 -/
namespace Go.Proofs.YtpdelgjfamelfaaGreat
open Go.RowKit Go.Par Go.Vfs
set_option linter.unusedVariables false

theorem intE : Elem Tryz.prog 57 3 (.int .i64 0) := elem_of (b := 8) Tryz.underlying57 (by kernel_rfl) (by decide) rfl

set_option maxHeartbeats 400000 in
theorem copyInts_any (v : Value) (zs : List Int) (B : Nat) (w : World) (hsg : Seg w B v (ints zs)) (hB : B ≤ w.heap.size) (hl : zs.length ≤ 1000000) :
    Calls Tryz.prog 31 #[v] w fun e w' => ∃ u, e = .returned u ∧ Par.Own w' w.heap.size 3 u (ints zs) ∧ Below w.heap.size w w' := by
  have hown := Par.Own.new w w.heap.size 3 #[] [] rfl (Nat.le_refl _) (by simp)
  have hb0 : Below w.heap.size w (w.alloc (.cells #[] 3)) := (Below.refl _ w).alloc (Nat.le_refl _) _
  have hsg1 := hsg.below (hb0.mono hB)
  clear hsg
  go_enter Tryz.func31, Tryz.ntmps31
  go_wp2_with (at_builtin; refine wpList_app _ rfl _ _ _ rfl w.heap.size 3 _ intE _ _ rfl hown _ v _ rfl hsg1 (one_ints _) ?c1 ?c2 ?_)
  case c1 => rw [ints_length]; simp only [List.length_nil]; omega
  case c2 => first | omega | (simp; done) | (simp; omega)
  intro v3 w3 hown4 hg3 hat3
  go_wp2
  go_ret
  exact ⟨_, rfl, by simpa using hown4, below_app hb0 hown hg3 (by simp)⟩

set_option maxHeartbeats 400000 in
theorem copyBytes_any (v : Value) (l : List UInt8) (B : Nat) (w : World) (hsg : Seg w B v (Lib.byteCells l)) (hB : B ≤ w.heap.size) (hl : l.length ≤ 1000000) :
    Calls Tryz.prog 8 #[v] w fun e w' => ∃ u, e = .returned u ∧ Par.Own w' w.heap.size 5 u (Lib.byteCells l) ∧ Below w.heap.size w w' := by
  have hown := Par.Own.new w w.heap.size 5 #[] [] rfl (Nat.le_refl _) (by simp)
  have hb0 : Below w.heap.size w (w.alloc (.cells #[] 5)) := (Below.refl _ w).alloc (Nat.le_refl _) _
  have hsg1 := hsg.below (hb0.mono hB)
  clear hsg
  go_enter Tryz.func8, Tryz.ntmps8
  go_wp2_with (at_builtin; refine wpList_app _ rfl _ _ _ rfl w.heap.size 5 _ byteE _ _ rfl hown _ v _ rfl hsg1 (one_bytes _) ?c1 ?c2 ?_)
  case c1 => rw [Lib.byteCells_length]; simp only [List.length_nil]; omega
  case c2 => first | omega | (simp; done) | (simp; omega)
  intro v3 w3 hown4 hg3 hat3
  go_wp2
  go_ret
  exact ⟨_, rfl, by simpa using hown4, below_app hb0 hown hg3 (by simp)⟩

set_option maxHeartbeats 400000 in
theorem sameBytes_any (u v : Value) (xs ys : List UInt8) (B : Nat) (w : World) (hu : Seg w B u (Lib.byteCells xs)) (hv : Seg w B v (Lib.byteCells ys)) :
    Calls Tryz.prog 60 #[u, v] w fun e w' => e = .returned (.bool (decide (xs = ys))) ∧ ∃ n, w' = w.drewN n := by
  obtain ⟨A, c, rfl, hc, hm, ha⟩ := hu.open_bytes
  obtain ⟨A', c', rfl, hc', hm', ha'⟩ := hv.open_bytes
  clear hu hv
  by_cases hl : xs.length = ys.length
  · have hne : ((xs.length : Int) != (ys.length : Int)) = false := by simp [hl]
    have Hl := Lib.hid hl
    clear hl
    go_enter Tryz.func60, Tryz.ntmps60
    go_wp2
    go_loopw [5] (fun i wr => ∃ k n : Nat, k ≤ xs.length ∧ i = .int .i64 k ∧ Agree k xs ys ∧ wr = w.drewN n) (fun i _ => xs.length - (intOf i).toNat)
    case atStart => exact ⟨0, 0, by omega, rfl, Agree.zero _ _, rfl⟩
    case round =>
      obtain ⟨k, n, hk, rfl, hal, rfl⟩ := hrel
      by_cases hlt : k < xs.length
      · have hlt' : k < ys.length := by have := Hl.out; omega
        obtain ⟨b, off, x, rfl, hb, hc1, hx, Hx⟩ := ha.byte hlt
        obtain ⟨b', off', y, rfl, hb', hc2, hy, Hy⟩ := ha'.byte hlt'
        have HA := Lib.hid ha; clear ha
        have HA' := Lib.hid ha'; clear ha'
        by_cases he : x = y
        · have hbe : ((x : Int) != (y : Int)) = false := by simp [he]
          have He := Lib.hid he
          clear he
          go_wp2
          go_quiet (fail)
          go_wp2
          go_roundw
          case rel => exact ⟨k + 1, _, by omega, by go_num, hal.step hlt hlt' 0 (UInt8.toNat_inj.1 (by rw [Hx.out, Hy.out, He.out])), rfl⟩
          case measure => simp [intOf]; omega
        · have hbe : ((x : Int) != (y : Int)) = true := by simp; omega
          have He := Lib.hid he
          clear he
          go_wp2
          go_quiet (fail)
          go_wp2
          go_ret
          refine ⟨ret_bool ?_, _, World.drewN_drewN _ _ _⟩
          have h1 := Hx.out
          have h2 := Hy.out
          have h3 := He.out
          simp
          rintro rfl
          exact h3 (h1.symm.trans h2)
      · have hkl : k = xs.length := by omega
        have Hk := Lib.hid hkl
        clear hkl
        go_wp2
        go_ret
        refine ⟨ret_bool ?_, _, rfl⟩
        rw [Hk.out] at hal
        simp [hal.whole Hl.out]
  · have hne : ((xs.length : Int) != (ys.length : Int)) = true := by simp; omega
    have Hl := Lib.hid hl
    clear hl
    go_enter Tryz.func60, Tryz.ntmps60
    go_wp2
    go_ret
    refine ⟨ret_bool ?_, 0, rfl⟩
    have := Hl.out
    simp
    rintro rfl
    exact this rfl

/- texts. -/
theorem Seg.open_strs {w : World} {B : Nat} {v : Value} {ls : List (List UInt8)} (h : Seg w B v (strs ls)) :
    ∃ A c, v = .slice A ls.length c ∧ ls.length ≤ c ∧ c ≤ 9223372036854775807 ∧ At w B A ls.length (fun i => .string ⟨(ls.getD i []).toArray⟩) := by
  obtain ⟨A, c, rfl, h2, h3, h4⟩ := h
  rw [strs_length] at h2 h4
  refine ⟨A, c, by rw [strs_length], h2, by simpa [maxLen] using h3, fun i hi => ?_⟩
  obtain ⟨b, off, e, hb, hc⟩ := h4 (by omega)
  refine ⟨b, off, e, hb, (hc i hi).trans ?_⟩
  simp [strs, hi, List.getD_eq_getElem?_getD]
theorem At.str {w : World} {B n k : Nat} {A : Option Addr} {ls : List (List UInt8)} (h : At w B A n (fun i => .string ⟨(ls.getD i []).toArray⟩)) (hk : k < n) :
    ∃ b off x, A = some ⟨b, off, none⟩ ∧ b < B ∧ w.cell? ⟨b, off + k, none⟩ = some (.string ⟨x.toArray⟩) ∧ Hid (ls.getD k [] = x) := by
  obtain ⟨b, off, e, hb, hc⟩ := h k hk
  exact ⟨b, off, _, e, hb, hc, Lib.hid rfl⟩
set_option maxHeartbeats 400000 in
theorem sameTexts_any (u v : Value) (xs ys : List (List UInt8)) (B : Nat) (w : World) (hu : Seg w B u (strs xs)) (hv : Seg w B v (strs ys)) :
    Calls Tryz.prog 57 #[u, v] w fun e w' => e = .returned (.bool (decide (xs = ys))) ∧ ∃ n, w' = w.drewN n := by
  obtain ⟨A, c, rfl, hc, hm, ha⟩ := Seg.open_strs hu
  obtain ⟨A', c', rfl, hc', hm', ha'⟩ := Seg.open_strs hv
  clear hu hv
  by_cases hl : xs.length = ys.length
  · have hne : ((xs.length : Int) != (ys.length : Int)) = false := by simp [hl]
    have Hl := Lib.hid hl
    clear hl
    go_enter Tryz.func57, Tryz.ntmps57
    go_wp2
    go_loopw [5] (fun i wr => ∃ k n : Nat, k ≤ xs.length ∧ i = .int .i64 k ∧ Agree k xs ys ∧ wr = w.drewN n) (fun i _ => xs.length - (intOf i).toNat)
    case atStart => exact ⟨0, 0, by omega, rfl, Agree.zero _ _, rfl⟩
    case round =>
      obtain ⟨k, n, hk, rfl, hal, rfl⟩ := hrel
      by_cases hlt : k < xs.length
      · have hlt' : k < ys.length := by have := Hl.out; omega
        obtain ⟨b, off, x, rfl, hb, hc1, Hx⟩ := At.str ha hlt
        obtain ⟨b', off', y, rfl, hb', hc2, Hy⟩ := At.str ha' hlt'
        have HA := Lib.hid ha; clear ha
        have HA' := Lib.hid ha'; clear ha'
        by_cases he : x = y
        · subst he
          go_wp2
          go_quiet (fail)
          go_wp2
          go_roundw
          case rel => exact ⟨k + 1, _, by omega, by go_num, hal.step hlt hlt' [] (by rw [Hx.out, Hy.out]), rfl⟩
          case measure => simp [intOf]; omega
        · have hbe : (x == y) = false := beq_eq_false_iff_ne.2 he
          have hbn : (!x == y) = true := by rw [hbe]; rfl
          have He := Lib.hid he
          clear he
          go_wp2
          go_quiet (fail)
          go_wp2
          go_ret
          refine ⟨ret_bool ?_, _, World.drewN_drewN _ _ _⟩
          have h1 := Hx.out
          have h2 := Hy.out
          have h3 := He.out
          simp
          rintro rfl
          exact h3 (h1.symm.trans h2)
      · have hkl : k = xs.length := by omega
        have Hk := Lib.hid hkl
        clear hkl
        go_wp2
        go_ret
        refine ⟨ret_bool ?_, _, rfl⟩
        rw [Hk.out] at hal
        simp [hal.whole Hl.out]
  · have hne : ((xs.length : Int) != (ys.length : Int)) = true := by simp; omega
    have Hl := Lib.hid hl
    clear hl
    go_enter Tryz.func57, Tryz.ntmps57
    go_wp2
    go_ret
    refine ⟨ret_bool ?_, 0, rfl⟩
    have := Hl.out
    simp
    rintro rfl
    exact this rfl
end Go.Proofs.YtpdelgjfamelfaaGreat
/- V17 -/
namespace Go.Proofs.YtpdelgjfamelfaaGreat
open Go.RowKit Go.Lib Go.Vfs Go.Par
set_option linter.unusedVariables false

/- rows that a statement has just laid. -/
theorem SegS.new {w : World} {F : Nat → Prop} (hF : ∀ k, F k → k < w.heap.size) (xs : List Value) (cs : Array Value) (hcs : cs = xs.toArray) (n : Nat) (hn : xs.length = n) (hm : n ≤ maxLen) (t : TypeId) (fr : Nat × Nat) (g : Nat) (hg : g = w.heap.size) :
    SegS (Out (w.alloc (.cells cs t fr)) F) (w.alloc (.cells cs t fr)) (.slice (some ⟨g, 0, none⟩) n n) xs := by
  subst hcs hn hg
  refine ⟨_, _, rfl, Nat.le_refl _, hm, fun _ => ⟨_, _, rfl, ⟨by simp, fun h => by have := hF _ h; omega⟩, fun i hi => ?_⟩⟩
  rw [World.cell?_alloc_mark]
  simp
theorem SegS.alloc {w : World} {F : Nat → Prop} {v : Value} {xs : List Value} (h : SegS (Out w F) w v xs) (o : Obj) : SegS (Out (w.alloc o) F) (w.alloc o) v xs := h.below ((Below.refl _ w).alloc (Nat.le_refl _) _)
theorem Fsy.below {w w' : World} {p : Nat} {st : St} {F : Nat → Prop} (h : Fsy w p st F) (hb : Below w.heap.size w w') : Fsy w' p st F := h.keep fun k hk => hb.block k (h.lt k hk)
theorem Fsy.alloc {w : World} {p : Nat} {st : St} {F : Nat → Prop} (h : Fsy w p st F) (o : Obj) : Fsy (w.alloc o) p st F := h.below ((Below.refl _ w).alloc (Nat.le_refl _) _)
theorem RowsAt.new1 {w : World} {F : Nat → Prop} (hF : ∀ k, F k → k < w.heap.size) {v : Value} {l : List UInt8} (h : SegS (Out w F) w v (byteCells l)) (g : Nat) (hg : g = w.heap.size) :
    RowsAt (Out (w.alloc (.cells #[v] 22)) F) (w.alloc (.cells #[v] 22)) (.slice (some ⟨g, 0, none⟩) 1 1) [l] :=
  ⟨[v], rfl, SegS.new hF [v] #[v] rfl 1 rfl (by decide) _ _ g hg, fun i hi => by
    obtain rfl : i = 0 := by simp at hi; omega
    exact SegS.alloc h _⟩
theorem RowsAt.new2 {w : World} {F : Nat → Prop} (hF : ∀ k, F k → k < w.heap.size) {v v' : Value} {l l' : List UInt8} (h : SegS (Out w F) w v (byteCells l)) (h' : SegS (Out w F) w v' (byteCells l')) (g : Nat) (hg : g = w.heap.size) :
    RowsAt (Out (w.alloc (.cells #[v, v'] 22)) F) (w.alloc (.cells #[v, v'] 22)) (.slice (some ⟨g, 0, none⟩) 2 2) [l, l'] :=
  ⟨[v, v'], rfl, SegS.new hF [v, v'] #[v, v'] rfl 2 rfl (by decide) _ _ g hg, fun i hi => by
    rcases i with _ | _ | i
    · exact SegS.alloc h _
    · exact SegS.alloc h' _
    · simp at hi; omega⟩

/-- a file system whose blocks are new since B, in a world that leaves what lay below B. -/
structure Held (B : Nat) (w0 w : World) (p : Nat) (st : St) (F : Nat → Prop) : Prop where
  fs : Fsy w p st F
  new : ∀ k, F k → B ≤ k
  below : Below B w0 w
theorem Held.op {B : Nat} {w0 w w' : World} {p : Nat} {st : St} {F F' : Nat → Prop} (h : Held B w0 w p st F) (hB : B ≤ w0.heap.size) {st' : St} (h1 : Fsy w' p st' F') (h2 : Kept F w w') (h3 : Grows w F F') : Held B w0 w' p st' F' := by
  have hs : B ≤ w.heap.size := Nat.le_trans hB h.below.size
  exact ⟨h1, fun k hk => by rcases h3 k hk with a | a; exact h.new k a; omega, h.below.trans (h2.below hs h.new)⟩
theorem Held.go {B : Nat} {w0 w w' : World} {p : Nat} {st : St} {F : Nat → Prop} (h : Held B w0 w p st F) (hB : B ≤ w0.heap.size) (hb : Below w.heap.size w w') : Held B w0 w' p st F :=
  ⟨h.fs.below hb, h.new, h.below.trans (hb.mono (Nat.le_trans hB h.below.size))⟩

theorem Held.size {B : Nat} {w0 w : World} {p : Nat} {st : St} {F : Nat → Prop} (h : Held B w0 w p st F) (hB : B ≤ w0.heap.size) : B ≤ w.heap.size := Nat.le_trans hB h.below.size
theorem Held.append {B : Nat} {w0 w : World} {p : Nat} {st : St} {F : Nat → Prop} (h : Held B w0 w p st F) (hB : B ≤ w0.heap.size) {s : ByteArray} (hs : s.size ≤ 9223372036854775807) {v : Value} {ls : List (List UInt8)} (hp : RowsAt (Out w F) w v ls) (hm : Modest st ls.flatten.length) :
    Calls Tryz.prog 7 #[.pointer (some ⟨p, 0, none⟩), .string s, v] w fun e w' => ∃ F', e = .returned (.int .i64 (stAppend st s.data.toList ls.flatten).2) ∧ Held B w0 w' p (stAppend st s.data.toList ls.flatten).1 F' ∧ Kept F w w' ∧ Grows w F F' := by
  refine (append_any w p st F h.fs s hs v ls hp hm).mono ?_
  rintro e w' ⟨F', h1, h2, h3, h4⟩
  exact ⟨F', h1, h.op hB h2 h3 h4, h3, h4⟩
theorem Held.sync {B : Nat} {w0 w : World} {p : Nat} {st : St} {F : Nat → Prop} (h : Held B w0 w p st F) (hB : B ≤ w0.heap.size) {s : ByteArray} (hs : s.size ≤ 9223372036854775807) (hpw : st.power ≤ 9223372036854775807) :
    Calls Tryz.prog 9 #[.pointer (some ⟨p, 0, none⟩), .string s] w fun e w' => ∃ F', e = .returned (.int .i64 (stSync st s.data.toList).2) ∧ Held B w0 w' p (stSync st s.data.toList).1 F' ∧ Kept F w w' ∧ Grows w F F' := by
  refine (sync_any w p st F h.fs s hs hpw).mono ?_
  rintro e w' ⟨F', h1, h2, h3, h4⟩
  exact ⟨F', h1, h.op hB h2 h3 h4, h3, h4⟩

/-- 'string(b)' -/
theorem conv_seg {w : World} {B : Nat} {v : Value} {l : List UInt8} (h : Seg w B v (Lib.byteCells l)) : (convert 22 9 v).run Tryz.prog w = .ok (.string ⟨l.toArray⟩) w := by
  obtain ⟨A, c, rfl, hc, hm, hat⟩ := h
  rw [Lib.byteCells_length] at hat ⊢
  rcases A with _ | a
  · have h0 : l.length = 0 := by
      rcases Nat.eq_zero_or_pos l.length with h | h
      · exact h
      · obtain ⟨_, _, e, _⟩ := hat h; cases e
    have : l = [] := List.eq_nil_of_length_eq_zero h0
    subst this
    rw [List.length_nil, run_convert_bytes_string _ 22 9 5 none 0 c Tryz.underlying22 Tryz.underlying5 Tryz.underlying9]
    rfl
  · refine run_convert_bytes_back (P := Tryz.prog) w 22 9 5 a c l Tryz.underlying22 Tryz.underlying5 Tryz.underlying9 (fun j hj => ?_)
    obtain ⟨b, off, e, _, hcell⟩ := hat (by omega)
    cases e
    rw [add_addr, hcell j hj]
    simp [Lib.byteCells, hj]

def logN : List UInt8 := [108, 111, 103]
theorem al1 : stAppend ⟨-1, []⟩ logN [97, 98, 99] = (⟨-1, [⟨logN, [97, 98, 99], 0⟩]⟩, 0) := by rfl
theorem al2 : stSync ⟨-1, [⟨logN, [97, 98, 99], 0⟩]⟩ logN = (⟨-1, [⟨logN, [97, 98, 99], 3⟩]⟩, 0) := by rfl
theorem al3 : stAppend ⟨-1, [⟨logN, [97, 98, 99], 3⟩]⟩ logN [100, 101] = (⟨-1, [⟨logN, [97, 98, 99, 100, 101], 3⟩]⟩, 0) := by rfl
theorem al4 : stCrash ⟨-1, [⟨logN, [97, 98, 99, 100, 101], 3⟩]⟩ [1] (-1) = ⟨-1, [⟨logN, [97, 98, 99, 100], 4⟩]⟩ := by rfl
theorem al5 : stFind ⟨-1, [⟨logN, [97, 98, 99, 100], 4⟩]⟩ logN = .ok ⟨logN, [97, 98, 99, 100], 4⟩ := by rfl

end Go.Proofs.YtpdelgjfamelfaaGreat
/- VP -/
namespace Go.Proofs.YtpdelgjfamelfaaGreat
open Go.RowKit Go.Lib Go.Vfs Go.Par
set_option linter.unusedVariables false

theorem findL_cons {α : Type} {key : α → List UInt8} (s : List UInt8) (y : α) (l : List α) : findL key s (y :: l) = if key y = s then some y else findL key s l := by
  unfold findL
  rw [List.find?_cons]
  by_cases h : key y = s
  · simp [h]
  · have : (key y == s) = false := beq_eq_false_iff_ne.2 h
    rw [this, if_neg h]
theorem findL_putL_ne {α : Type} {key : α → List UInt8} {s : List UInt8} {x : α} (h : key x ≠ s) : ∀ l : List α, findL key s (putL key x l) = findL key s l
  | [] => by simp [putL, findL, h]
  | y :: r => by
    unfold putL
    split
    · rw [findL_cons, if_neg h]
    · rw [findL_cons, findL_cons, findL_putL_ne h r]
theorem findL_putL_self {α : Type} {key : α → List UInt8} {x : α} : ∀ l : List α, (∀ y ∈ l, key y ≠ key x) → findL key (key x) (putL key x l) = some x
  | [], _ => by simp [putL, findL]
  | y :: r, h => by
    unfold putL
    split
    · rw [findL_cons, if_pos rfl]
    · rw [findL_cons, if_neg (h y (by simp)), findL_putL_self r (fun z hz => h z (by simp [hz]))]
theorem findL_dropL_ne {α : Type} {key : α → List UInt8} {s t : List UInt8} (h : s ≠ t) : ∀ l : List α, findL key s (dropL key t l) = findL key s l
  | [] => rfl
  | y :: r => by
    have ih := findL_dropL_ne h r (key := key)
    unfold dropL at ih ⊢
    rw [List.filter_cons]
    by_cases hy : key y = t
    · have : (!(key y == t)) = false := by simp [hy]
      rw [this, findL_cons, if_neg (show ¬ key y = s from fun e => h (e.symm.trans hy))]
      simpa using ih
    · have : (!(key y == t)) = true := by simp [hy]
      rw [this, if_pos rfl, findL_cons, findL_cons, ih]
theorem findL_dropL_self {α : Type} {key : α → List UInt8} (s : List UInt8) (l : List α) : findL key s (dropL key s l) = none := by
  unfold findL dropL
  rw [List.find?_eq_none]
  intro x hx
  simpa using (List.mem_filter.1 hx).2
theorem findL_withL_self {α : Type} {key : α → List UInt8} (x : α) (l : List α) : findL key (key x) (withL key x l) = some x :=
  findL_putL_self _ fun y hy => (mem_dropL.1 hy).2
theorem findL_withL_ne {α : Type} {key : α → List UInt8} {x : α} {s : List UInt8} (h : key x ≠ s) (l : List α) : findL key s (withL key x l) = findL key s l := by
  unfold withL
  rw [findL_putL_ne h, findL_dropL_ne (fun e => h e.symm)]

theorem stFind_of {st : St} {s : List UInt8} {f : File} (hn : nameB s = true) (h : findL File.name s st.files = some f) : stFind st s = .ok f := by unfold stFind; rw [hn, h]; rfl
theorem stFind_none {st : St} {s : List UInt8} (hn : nameB s = true) (h : findL File.name s st.files = none) : stFind st s = .error 11 := by unfold stFind; rw [hn, h]; rfl
theorem stAppend_no {st : St} {s L : List UInt8} (h : nameB s = false) : stAppend st s L = (st, 10) := by unfold stAppend; rw [h]; rfl
theorem stAppend_yes {st : St} {s L : List UInt8} (h : nameB s = true) (hp : st.power = -1) : stAppend st s L = (⟨-1, appF s L st.files⟩, 0) := by
  unfold stAppend doSt; rw [h, hp]; rfl
theorem name_len {s : List UInt8} (h : nameB s = true) : s.length ≤ 32 := by
  unfold nameB at h
  simp at h
  exact h.1.2
theorem Held.rename {B : Nat} {w0 w : World} {p : Nat} {st : St} {F : Nat → Prop} (h : Held B w0 w p st F) (hB : B ≤ w0.heap.size) {a b : ByteArray} (ha : a.size ≤ 9223372036854775807) (hb : b.size ≤ 9223372036854775807) (hpw : st.power ≤ 9223372036854775807) (hfl : st.files.length < 2147483648) :
    Calls Tryz.prog 85 #[.pointer (some ⟨p, 0, none⟩), .string a, .string b] w fun e w' => ∃ F', e = .returned (.int .i64 (stRename st a.data.toList b.data.toList).2) ∧ Held B w0 w' p (stRename st a.data.toList b.data.toList).1 F' ∧ Kept F w w' ∧ Grows w F F' := by
  refine (rename_any w p st F h.fs a b ha hb hpw hfl).mono ?_
  rintro e w' ⟨F', h1, h2, h3, h4⟩
  exact ⟨F', h1, h.op hB h2 h3 h4, h3, h4⟩

/- the two files of VfsRename. -/
def st2 (a c x y : List UInt8) : St := ⟨-1, appF c y [⟨a, x, 0⟩]⟩
theorem st2_a {a c x y : List UInt8} (ha : nameB a = true) : ∃ f, stFind (st2 a c x y) a = .ok f ∧ f.data.length ≤ x.length + y.length := by
  by_cases h : c = a
  · subst h
    refine ⟨⟨c, x ++ y, 0⟩, stFind_of ha ?_, by simp⟩
    have e : findL File.name c [⟨c, x, 0⟩] = some ⟨c, x, 0⟩ := by rw [findL_cons, if_pos rfl]
    unfold st2 appF
    rw [e]
    exact findL_withL_self (key := File.name) ⟨c, x ++ y, 0⟩ _
  · refine ⟨⟨a, x, 0⟩, stFind_of ha ?_, by simp⟩
    have e : findL File.name c [⟨a, x, 0⟩] = none := by rw [findL_cons, if_neg (fun e => h e.symm)]; rfl
    unfold st2 appF
    rw [e]
    refine (findL_withL_ne (key := File.name) (x := ⟨c, y, 0⟩) h _).trans ?_
    rw [findL_cons, if_pos rfl]
theorem st2_c {a c x y : List UInt8} (h : c ≠ a) : findL File.name c (st2 a c x y).files = some ⟨c, y, 0⟩ := by
  have e : findL File.name c [⟨a, x, 0⟩] = none := by rw [findL_cons, if_neg (fun e => h e.symm)]; rfl
  unfold st2 appF
  rw [e]
  exact findL_withL_self (key := File.name) ⟨c, y, 0⟩ _
theorem length_putL' {α : Type} {key : α → List UInt8} (x : α) : ∀ l : List α, (putL key x l).length = l.length + 1
  | [] => rfl
  | y :: r => by unfold putL; split <;> simp [length_putL' x r]
theorem length_withL' {α : Type} {key : α → List UInt8} (x : α) (l : List α) : (withL key x l).length ≤ l.length + 1 := by
  unfold withL
  rw [length_putL']
  have : (dropL key (key x) l).length ≤ l.length := List.length_filter_le _ _
  omega
theorem st2_len (a c x y : List UInt8) : (st2 a c x y).files.length ≤ 2 := length_withL' _ _
theorem st2_data (a c x y : List UInt8) : ∀ f ∈ (st2 a c x y).files, f.data.length ≤ x.length + y.length := by
  intro f hf
  unfold st2 appF at hf
  rcases mem_withL.1 hf with h | ⟨h, _⟩
  · subst h
    rw [findL_cons]
    by_cases e : a = c
    · simp [e]
    · simp [e, findL]
  · simp at h
    subst h
    simp
def st3 (st : St) (a b : List UInt8) (f : File) : St := ⟨-1, withL File.name ⟨b, f.data, f.safe⟩ (dropL File.name a st.files)⟩
theorem st3_data {st : St} {a b : List UInt8} {f : File} {n : Nat} (h : ∀ g ∈ st.files, g.data.length ≤ n) (hf : f.data.length ≤ n) : ∀ g ∈ (st3 st a b f).files, g.data.length ≤ n := by
  intro g hg
  rcases mem_withL.1 hg with e | ⟨e, _⟩
  · subst e; exact hf
  · exact h g (mem_dropL.1 e).1
theorem st3_b {st : St} {a b : List UInt8} {f : File} (hb : nameB b = true) : stFind (st3 st a b f) b = .ok ⟨b, f.data, f.safe⟩ := stFind_of hb (findL_withL_self (key := File.name) ⟨b, f.data, f.safe⟩ _)
theorem st3_a {st : St} {a b : List UInt8} {f : File} (ha : nameB a = true) (h : a ≠ b) : stFind (st3 st a b f) a = .error 11 := stFind_none ha (by
  refine (findL_withL_ne (key := File.name) (x := ⟨b, f.data, f.safe⟩) (fun e => h e.symm) _).trans ?_
  exact findL_dropL_self _ _)
theorem st3_c {st : St} {a b c : List UInt8} {f g : File} (hc : nameB c = true) (h : c ≠ a) (h' : c ≠ b) (hg : findL File.name c st.files = some g) : stFind (st3 st a b f) c = .ok g := stFind_of hc (by
  refine (findL_withL_ne (key := File.name) (x := ⟨b, f.data, f.safe⟩) (fun e => h' e.symm) _).trans ?_
  rw [findL_dropL_ne h]
  exact hg)
end Go.Proofs.YtpdelgjfamelfaaGreat
/- V18 -/
namespace Go.Proofs.YtpdelgjfamelfaaGreat
open Go.RowKit Go.Lib Go.Vfs Go.Par
set_option linter.unusedVariables false

theorem below_drewN {n : Nat} {w w' : World} (h : Below n w w') (k : Nat) : Below n w (w'.drewN k) := ⟨h.os, h.tape, h.output, h.size, h.block⟩

theorem toL_ne {a b : ByteArray} (h : a ≠ b) : ¬ a.toList = b.toList := by
  rw [ByteArray.toList_eq, ByteArray.toList_eq]
  intro e
  apply h
  cases a; cases b
  simp only [ByteArray.mk.injEq]
  exact Array.ext' e
theorem dat_ne {a b : ByteArray} (h : a ≠ b) : a.data.toList ≠ b.data.toList := by
  have := toL_ne h
  rwa [ByteArray.toList_eq, ByteArray.toList_eq] at this

end Go.Proofs.YtpdelgjfamelfaaGreat
/- V19 -/
namespace Go.Proofs.YtpdelgjfamelfaaGreat
open Go.RowKit Go.Lib Go.Vfs Go.Par
set_option linter.unusedVariables false

theorem Own.formB {w : World} {base : Nat} {e : TypeId} {v : Value} {l : List UInt8} (h : Par.Own w base e v (byteCells l)) : ∃ A c, v = .slice A l.length c := by
  obtain ⟨A, c, e⟩ := h.form
  exact ⟨A, c, by rw [e, byteCells_length]⟩
/-- the bytes of a slice of one's own are written, one by one; nothing else is. -/
def Flip (w : World) (A : Option Addr) (n : Nat) (wr : World) : Prop :=
  Kept (fun k => A.map (·.block) = some k) w wr ∧ wr.heap.size = w.heap.size ∧ ∀ j, j < n → ∃ g m, A = some ⟨g, 0, none⟩ ∧ wr.cell? ⟨g, j, none⟩ = some (.int .u8 m) ∧ wr.frozen? ⟨g, j, none⟩ = false
theorem Flip.start {w : World} {base : Nat} {A : Option Addr} {c : Nat} {l : List UInt8} (h : Par.Own w base 5 (.slice A l.length c) (byteCells l)) : Flip w A l.length w := by
  refine ⟨Kept.refl _ _, rfl, fun j hj => ?_⟩
  obtain ⟨_, ⟨e, h0⟩ | ⟨g, cap, cur, e, hb, hg, h1, h2, h3, h4⟩⟩ := h
  · rw [byteCells_length] at h0; omega
  · rw [byteCells_length] at e h4 h1
    injection e with e1 e2 e3
    subst e1
    have hc : cur.toList[j]? = (byteCells l)[j]? := by
      rw [← h4, List.getElem?_take_of_lt]
      omega
    refine ⟨g, (l[j].toNat : Int), rfl, ?_, ?_⟩
    · rw [Go.Joins.cell_of_block hg]
      rw [← Array.getElem?_toList, hc]
      simp [byteCells, hj]
    · exact Go.Joins.unfrozen_of_block hg j
theorem Flip.step {w wr : World} {g n : Nat} (h : Flip w (some ⟨g, 0, none⟩) n wr) (k : Nat) (x : Int) : Flip w (some ⟨g, 0, none⟩) n (wr.setCell ⟨g, k, none⟩ (.int .u8 x)) := by
  obtain ⟨h1, h2, h3⟩ := h
  refine ⟨h1.setCell (p := ⟨g, k, none⟩) (.inl rfl) _, by rw [← h2]; simp, fun j hj => ?_⟩
  obtain ⟨g', m, e, hc, hf⟩ := h3 j hj
  cases e
  obtain ⟨m', hm⟩ := someInt_setCell ⟨m, hc⟩ ⟨g, k, none⟩ x
  exact ⟨g, m', rfl, hm, by rw [World.frozen?_setCell]; exact hf⟩
theorem Flip.held {B : Nat} {w0 w wr : World} {p : Nat} {st : St} {F : Nat → Prop} {A : Option Addr} {n : Nat} (h : Flip w A n wr) (H : Held B w0 w p st F) (hB : B ≤ w0.heap.size) (hg : ∀ g, A.map (·.block) = some g → ¬ F g ∧ B ≤ g) : Held B w0 wr p st F :=
  ⟨H.fs.keep fun k hk => h.1.block k (H.fs.lt k hk) (fun e => (hg k e).1 hk), H.new, H.below.trans (h.1.below (H.size hB) fun k hk => (hg k hk).2)⟩
theorem Flip.drewN {w wr : World} {A : Option Addr} {n : Nat} (h : Flip w A n wr) (m : Nat) : Flip w A n (wr.drewN m) := ⟨h.1.drewN m, h.2.1, h.2.2⟩

theorem Held.go' {B : Nat} {w0 w w' : World} {p : Nat} {st : St} {F : Nat → Prop} (h : Held B w0 w p st F) (n : Nat) (hF : ∀ k, F k → k < n) (hn : B ≤ n) (hb : Below n w w') : Held B w0 w' p st F :=
  ⟨h.fs.keep fun k hk => hb.block k (hF k hk), h.new, h.below.trans (hb.mono hn)⟩
theorem own_grown {w w' : World} {base : Nat} {e : TypeId} {v : Value} {xs : List Value} (h : Par.Own w base e v xs) (hb : base ≤ w.heap.size) (hg : w.grownBy w' v.ownBlock) : Below base w w' :=
  ((Kept.refl (fun k => base ≤ k) w).grown hg (fun k e => .inl (h.lt k e).1)).below hb (fun _ h => h)
theorem slice_front (A : Option Addr) (n c N : Nat) (w : World) (h : N ≤ c) : (Instr.slice 22 (.slice A n c) none (some (.int .i64 (N : Int))) none).run Tryz.prog w = .ok (.slice A N c) w := by
  have ht' : Tryz.prog.underlying 22 = some (.slice (Tryz.prog.elem 22)) := by simp [Program.elem, Tryz.underlying22]
  have he : Tryz.prog.elem 22 = 5 := by simp [Program.elem, Tryz.underlying22]
  rw [run_slice_h w 22 _ _ _ ht' .i64 _ (by omega) (by omega), he, Tryz.sizeOf5]
  simp only [Result.andThen, sliced]
  cases A <;> simp [Addr.add]
theorem seg_front {w : World} {B : Nat} {A : Option Addr} {c : Nat} {l r : List UInt8} (h : Seg w B (.slice A (l ++ r).length c) (byteCells (l ++ r))) : l.length ≤ c ∧ Seg w B (.slice A l.length c) (byteCells l) := by
  obtain ⟨A', c', e, h1, h2, h3⟩ := h
  rw [byteCells_length] at e h1 h3
  injection e with e1 e2 e3
  subst e1 e3
  have h4 : l.length ≤ c := by simp at h1; omega
  refine ⟨h4, A, c, by rw [byteCells_length], by rw [byteCells_length]; exact h4, h2, fun hp => ?_⟩
  rw [byteCells_length] at hp
  obtain ⟨b, off, e, hb, hc⟩ := h3 (by simp; omega)
  refine ⟨b, off, e, hb, fun i hi => ?_⟩
  rw [byteCells_length] at hi
  rw [hc i (by simp; omega), byteCells_append, List.getElem?_append_left (by rw [byteCells_length]; exact hi)]
theorem crash_x (l : List UInt8) (hl : l.length ≤ 5000) : stCrash ⟨-1, [⟨[120], l, 0⟩]⟩ [1073741824] (-1) = ⟨-1, [⟨[120], l, l.length⟩]⟩ := by
  have h1 : cutK [1073741824] 0 = 1073741824 := rfl
  have h2 : cutN 1073741824 ⟨[120], l, 0⟩ = l.length := by
    unfold cutN
    have : (1073741824 : Int).toNat = 1073741824 := rfl
    simp only [this]
    omega
  unfold stCrash
  simp only [crashL, crashF, h1, h2, List.take_length]
end Go.Proofs.YtpdelgjfamelfaaGreat
/- VA -/
/- Append where the bytes are counted. -/
namespace Go.Par
open Go.RowKit Go.Lib
set_option linter.unusedVariables false
structure ElemB (P : Program) (t e : TypeId) (z : Value) (bytes : Nat) : Prop where
  und : P.underlying t = some (.slice e)
  info : ∃ i, P.info? e = some i ∧ i.zero = some z ∧ i.size = 1 ∧ i.bytes = bytes
  one : z.cells.size = 1
  few : bytes ≤ 64
theorem ElemB.plain {P : Program} {t e : TypeId} {z : Value} {bytes : Nat} (h : ElemB P t e z bytes) : Elem P t e z := by
  obtain ⟨i, h1, h2, h3, h4⟩ := h.info
  exact ⟨h.und, ⟨i, bytes, h1, h2, h3, h4, h.few⟩, h.one⟩
theorem elemB_of {P : Program} {t e : TypeId} {z : Value} {b : Nat} (ht : P.underlying t = some (.slice e)) (h : (P.info? e).map (fun i => (i.zero, i.size, i.bytes)) = some (some z, 1, b)) (hb : b ≤ 64) (h1 : z.cells.size = 1) : ElemB P t e z b := by
  obtain ⟨i, hi, h0, h2, h3⟩ := info_parts h
  exact ⟨ht, ⟨i, hi, h0, h2, h3⟩, h1, hb⟩
section
variable {P : Program} (w : World)

/-- what append leaves. -/
theorem run_appB (base : Nat) (t ty e : TypeId) (z : Value) (bytes : Nat) (E : ElemB P t e z bytes) (v : Value) (xs : List Value) (hown : Own w base e v xs)
    (B : Nat) (u : Value) (news : List Value) (hs : Seg w B u news) (h1 : ∀ x ∈ news, x.oneCell' = true)
    (hbd : (xs.length + news.length) * bytes ≤ 140737488355328) (hby1 : 1 ≤ bytes) (hbase : base ≤ w.heap.size) :
    ∃ v' w', (Builtin.append_ #[t, t] ty #[v, u]).run P w = .ok v' w' ∧ Own w' base e v' (xs ++ news) ∧ w.grownBy w' v.ownBlock ∧
      (v'.ownBlock = v.ownBlock ∨ v'.ownBlock = some w.heap.size) := by
  obtain ⟨i, hi, hz, hsz, hby⟩ := E.info
  have hbd1 : xs.length + news.length ≤ 140737488355328 := Nat.le_trans (Nat.le_mul_of_pos_right _ hby1) hbd
  obtain ⟨A, c, rfl, hc, hm, ha⟩ := hs
  have key : ∀ ad : Addr, A = some ad → (∀ j x, news[j]? = some x → w.cell? (ad.add j) = some x) → ∃ v' w', (Builtin.append_ #[t, t] ty #[v, .slice A news.length c]).run P w = .ok v' w' ∧ Own w' base e v' (xs ++ news) ∧ w.grownBy w' v.ownBlock ∧
      (v'.ownBlock = v.ownBlock ∨ v'.ownBlock = some w.heap.size) := by
    rintro ad rfl hcells
    have hb2 := hbd
    obtain ⟨v', w', hr, h2, h3, _, h5⟩ := run_append_own_at (P := P) w base t ty e i z 1 bytes E.und hi hz hsz hby E.one (by decide) v xs.length xs hown ad news.length c news (by simp) hcells h1 (by simp only [maxLen]; omega) hb2 hbase
    refine ⟨v', w', hr, ?_, h3, h5⟩
    unfold Own
    rw [List.length_append]
    exact h2
  rcases Nat.eq_zero_or_pos news.length with h0 | hp
  · have hn : news = [] := List.eq_nil_of_length_eq_zero h0
    subst hn
    rcases A with _ | ad
    · exact ⟨v, w, run_app_nil w base t ty e z E.plain v xs hown c, by simpa using hown, World.grownBy.refl w _, .inl rfl⟩
    · exact key ad rfl (fun j x hj => by simp at hj)
  · obtain ⟨b, off, rfl, _, hcell⟩ := ha hp
    refine key _ rfl (fun j x hj => ?_)
    rw [add_addr, hcell j (List.getElem?_eq_some_iff.1 hj).1]
    exact hj

theorem wp_appB {o : Oper} {a : Act} {K : Act → World → Prop} {Q : Exit → Act → World → Prop} (s x : Operand) (t : TypeId)
    (ho : o.op = .call { callee := .builtin .append, args := #[s, x], argTypes := #[t, t] })
    (base : Nat) (e : TypeId) (z : Value) (bytes : Nat) (E : ElemB P t e z bytes) (v : Value) (xs : List Value) (hs : a.eval s = v) (hown : Own w base e v xs)
    (B : Nat) (u : Value) (news : List Value) (hx : a.eval x = u) (hsg : Seg w B u news) (h1 : ∀ x ∈ news, x.oneCell' = true)
    (hbd : (xs.length + news.length) * bytes ≤ 140737488355328) (hby1 : 1 ≤ bytes) (hbase : base ≤ w.heap.size)
    (h : ∀ v' w', Own w' base e v' (xs ++ news) → w.grownBy w' v.ownBlock → (v'.ownBlock = v.ownBlock ∨ v'.ownBlock = some w.heap.size) → K (a.put o.dst v') w') : o.wp P a w K Q := by
  obtain ⟨v', w', hrun, h2, h3, h4⟩ := run_appB (P := P) w base t o.type e z bytes E v xs hown B u news hsg h1 hbd hby1 hbase
  unfold Oper.wp execOp
  simp only [ho, resolve, invoke, builtin, Sem.run_bind, Sem.run_pure, Result.andThen_ok, List.map_toArray, List.map_cons, List.map_nil, hs, hx, hrun]
  exact h v' w' h2 h3 h4

theorem wpList_appB {ops : Array Oper} {rest : List Oper} {o : Oper} {a : Act} {Q : Exit → Act → World → Prop} (hgd : o.guard = none) (s x : Operand) (t : TypeId)
    (ho : o.op = .call { callee := .builtin .append, args := #[s, x], argTypes := #[t, t] })
    (base : Nat) (e : TypeId) (z : Value) (bytes : Nat) (E : ElemB P t e z bytes) (v : Value) (xs : List Value) (hs : a.eval s = v) (hown : Own w base e v xs)
    (B : Nat) (u : Value) (news : List Value) (hx : a.eval x = u) (hsg : Seg w B u news) (h1 : ∀ x ∈ news, x.oneCell' = true)
    (hbd : (xs.length + news.length) * bytes ≤ 140737488355328) (hby1 : 1 ≤ bytes) (hbase : base ≤ w.heap.size)
    (h : ∀ v' w', Own w' base e v' (xs ++ news) → w.grownBy w' v.ownBlock → (v'.ownBlock = v.ownBlock ∨ v'.ownBlock = some w.heap.size) → wpList P ops Q rest (a.put o.dst v') w') : wpList P ops Q (o :: rest) a w :=
  wpList_plain hgd fun _ hK => wp_appB w s x t ho base e z bytes E v xs hs hown B u news hx hsg h1 hbd hby1 hbase fun v' w' h2 h3 h4 => hK _ _ (h v' w' h2 h3 h4)

end
end Go.Par
/- V20 -/
namespace Go.Proofs.YtpdelgjfamelfaaGreat
open Go.RowKit Go.Lib Go.Vfs Go.Par
set_option linter.unusedVariables false

theorem intB : ElemB Tryz.prog 57 3 (.int .i64 0) 8 := elemB_of Tryz.underlying57 (by kernel_rfl) (by decide) rfl

set_option maxHeartbeats 400000 in
theorem copyInts_big (v : Value) (zs : List Int) (B : Nat) (w : World) (hsg : Seg w B v (ints zs)) (hB : B ≤ w.heap.size) (hl : zs.length ≤ 17592186043904) :
    Calls Tryz.prog 31 #[v] w fun e w' => ∃ u, e = .returned u ∧ Par.Own w' w.heap.size 3 u (ints zs) ∧ Below w.heap.size w w' := by
  have hown := Par.Own.new w w.heap.size 3 #[] [] rfl (Nat.le_refl _) (by simp)
  have hb0 : Below w.heap.size w (w.alloc (.cells #[] 3)) := (Below.refl _ w).alloc (Nat.le_refl _) _
  have hsg1 := hsg.below (hb0.mono hB)
  clear hsg
  go_enter Tryz.func31, Tryz.ntmps31
  go_wp2_with (at_builtin; refine wpList_appB _ rfl _ _ _ rfl w.heap.size 3 _ 8 intB _ _ rfl hown _ v _ rfl hsg1 (one_ints _) ?c1 (by decide) ?c2 ?_)
  case c1 => rw [ints_length]; simp only [List.length_nil]; omega
  case c2 => first | omega | (simp; done) | (simp; omega)
  intro v3 w3 hown4 hg3 hat3
  go_wp2
  go_ret
  exact ⟨_, rfl, by simpa using hown4, below_app hb0 hown hg3 (by simp)⟩

/-- an Op in memory: its six cells. -/
structure OpR where
  what : Int
  n : Int
  name : ByteArray
  other : ByteArray
  pv : Value
  kv : Value
  parts : List (List UInt8)
  keeps : List Int
def OpR.cells (o : OpR) : List Value := [.int .i64 o.what, .int .i64 o.n, .string o.name, .string o.other, o.pv, o.kv]
/-- an Op whose slices lie below B. -/
structure OpAt (w : World) (B : Nat) (o : OpR) : Prop where
  rows : RowsAt (· < B) w o.pv o.parts
  ints : Seg w B o.kv (ints o.keeps)
  name : o.name.size ≤ 9223372036854775807
  other : o.other.size ≤ 9223372036854775807
  few : o.keeps.length ≤ 17592186043904
/-- a slice of Ops. -/
def SegO (w : World) (B : Nat) (v : Value) (os : List OpR) : Prop :=
  ∃ A c, v = .slice A os.length c ∧ os.length ≤ c ∧ c ≤ 9223372036854775807 ∧ (∀ o ∈ os, OpAt w B o) ∧
    ∀ i (h : i < os.length), ∃ b off, A = some ⟨b, off, none⟩ ∧ b < B ∧ ∀ j, j < 6 → w.cell? ⟨b, off + i * 6 + j, none⟩ = os[i].cells[j]?
theorem OpAt.below {w w' : World} {B : Nat} {o : OpR} (h : OpAt w B o) (hb : Below B w w') : OpAt w' B o :=
  ⟨h.rows.keep fun b hk => ⟨hk, hb.block b hk⟩, h.ints.below hb, h.name, h.other, h.few⟩
theorem SegO.below {w w' : World} {B : Nat} {v : Value} {os : List OpR} (h : SegO w B v os) (hb : Below B w w') : SegO w' B v os := by
  obtain ⟨A, c, h1, h2, h3, h4, h5⟩ := h
  refine ⟨A, c, h1, h2, h3, fun o ho => (h4 o ho).below hb, fun i hi => ?_⟩
  obtain ⟨b, off, e, hbb, hc⟩ := h5 i hi
  exact ⟨b, off, e, hbb, fun j hj => by rw [hb.cell (p := ⟨b, _, none⟩) hbb]; exact hc j hj⟩
end Go.Proofs.YtpdelgjfamelfaaGreat
/- V21 -/
namespace Go.Proofs.YtpdelgjfamelfaaGreat
open Go.RowKit Go.Lib Go.Vfs Go.Par
set_option linter.unusedVariables false

theorem SegO.take {w : World} {B : Nat} {A : Option Addr} {n c : Nat} {os : List OpR} (h : SegO w B (.slice A n c) os) (k : Nat) (hk : k ≤ os.length) : SegO w B (.slice A k c) (os.take k) := by
  obtain ⟨A', c', e, h2, h3, h4, h5⟩ := h
  injection e with e1 e2 e3
  subst e1 e3
  have hl : (os.take k).length = k := by simp; omega
  refine ⟨A, c, by rw [hl], by omega, h3, fun o ho => h4 o (List.mem_of_mem_take ho), fun i hi => ?_⟩
  rw [hl] at hi
  obtain ⟨b, off, e, hb, hc⟩ := h5 i (by omega)
  exact ⟨b, off, e, hb, fun j hj => by rw [hc j hj, List.getElem_take]⟩

end Go.Proofs.YtpdelgjfamelfaaGreat
/- V22 -/
namespace Go.Proofs.YtpdelgjfamelfaaGreat
open Go.RowKit Go.Lib Go.Vfs Go.Par
set_option linter.unusedVariables false

def sizeP (ls : List (List UInt8)) : Nat := (ls.map fun l => 1 + l.length).sum
def sizeO (os : List OpR) : Nat := (os.map fun o => sizeP o.parts).sum
theorem sizeP_succ (ls : List (List UInt8)) (k : Nat) (h : k < ls.length) : sizeP (ls.take (k + 1)) = sizeP (ls.take k) + (1 + (ls.getD k []).length) := by
  unfold sizeP
  rw [List.take_succ_eq_append_getElem h, List.map_append, List.sum_append, List.getD_eq_getElem?_getD, List.getElem?_eq_getElem h]
  simp
theorem sizeO_succ (os : List OpR) (k : Nat) (h : k < os.length) : sizeO (os.take (k + 1)) = sizeO (os.take k) + sizeP os[k].parts := by
  unfold sizeO
  rw [List.take_succ_eq_append_getElem h, List.map_append, List.sum_append]
  simp
theorem sum_take_le (l : List Nat) (k : Nat) : (l.take k).sum ≤ l.sum := by
  have := congrArg List.sum (List.take_append_drop k l)
  rw [List.sum_append] at this
  omega
theorem sizeP_take (ls : List (List UInt8)) (k : Nat) : sizeP (ls.take k) ≤ sizeP ls := by
  unfold sizeP
  rw [List.map_take]
  exact sum_take_le _ _
theorem sizeO_take (os : List OpR) (k : Nat) : sizeO (os.take k) ≤ sizeO os := by
  unfold sizeO
  rw [List.map_take]
  exact sum_take_le _ _

end Go.Proofs.YtpdelgjfamelfaaGreat
/- V23 -/
namespace Go.Proofs.YtpdelgjfamelfaaGreat
open Go.RowKit Go.Lib Go.Vfs Go.Par
set_option linter.unusedVariables false
set_option linter.unusedSimpArgs false

theorem rowE : Elem Tryz.prog 38 22 (.slice none 0 0) := elem_of (b := 24) Tryz.underlying38 (by kernel_rfl) (by decide) rfl

/-- what CopyRows has made when it has copied k rows. -/
structure Rowed (w : World) (ls : List (List UInt8)) (k : Nat) (v : Value) (us : List Value) (wr : World) : Prop where
  below : Below w.heap.size w wr
  len : us.length = k
  own : Par.Own wr w.heap.size 22 v us
  cells : ∀ i, i < k → SegS (fun b => w.heap.size ≤ b ∧ b < wr.heap.size ∧ v.ownBlock ≠ some b) wr (us.getD i (.bool false)) (byteCells (ls.getD i []))
theorem one_slices {S : Nat → Prop} {w : World} {l : List UInt8} {u : Value} (h : SegS S w u (byteCells l)) : u.oneCell' = true := by
  obtain ⟨A, c, rfl, -⟩ := h
  rfl

theorem Rowed.next {w : World} {ls : List (List UInt8)} {k : Nat} {v : Value} {us : List Value} {wr w2 w3 : World} (h : Rowed w ls k v us wr) {u : Value} (hb : Below wr.heap.size wr w2) (hu : Par.Own w2 wr.heap.size 5 u (byteCells (ls.getD k [])))
    {v' : Value} (o : Obj) (hown : Par.Own w3 w.heap.size 22 v' (us ++ [u])) (hg : (w2.alloc o).grownBy w3 v.ownBlock) (hat : v'.ownBlock = v.ownBlock ∨ v'.ownBlock = some (w2.heap.size + 1)) : Rowed w ls (k + 1) v' (us ++ [u]) w3 := by
  have hz := h.below.size
  have hz2 := hb.size
  have hv : ∀ g, v.ownBlock = some g → w.heap.size ≤ g ∧ g < wr.heap.size := fun g e => h.own.lt g e
  have hzg := hg.size
  have hal : (w2.alloc o).heap.size = w2.heap.size + 1 := by simp
  have hv' : ∀ b, b < wr.heap.size → v.ownBlock ≠ some b → v'.ownBlock ≠ some b := by
    intro b hlt hne e
    rcases hat with e1 | e1
    · exact hne (e1.symm.trans e)
    · rw [e1] at e; cases e; omega
  refine ⟨?_, by simp [h.len], hown, fun i hi => ?_⟩
  · exact ((h.below.trans (hb.mono hz)).alloc (by omega) o).grown hg (by omega) (fun g e => (hv g e).1)
  · by_cases hik : i < k
    · rw [show (us ++ [u]).getD i (.bool false) = us.getD i (.bool false) by simp [List.getD_eq_getElem?_getD, List.getElem?_append, h.len, hik]]
      refine (h.cells i hik).keep fun b ⟨b1, b2, b3⟩ => ⟨⟨b1, by omega, hv' b b2 b3⟩, ?_⟩
      rw [hg.block b (by omega) (fun e => b3 e.symm), Below.heap_alloc _ _ _ (by omega), hb.block b b2]
    · have : i = k := by omega
      subst this
      rw [show (us ++ [u]).getD i (.bool false) = u by simp [List.getD_eq_getElem?_getD, List.getElem?_append, h.len]]
      have hs := Own.outS hu (F := fun k => k < wr.heap.size) (fun k hk => hk)
      refine hs.keep fun b ⟨b1, b2⟩ => ⟨⟨by omega, by omega, fun e => ?_⟩, ?_⟩
      · rcases hat with e1 | e1
        · have := hv b (e1.symm.trans e); omega
        · rw [e1] at e; cases e; omega
      · rw [hg.block b (by omega) (fun e => by have := hv b e.symm; omega), Below.heap_alloc _ _ _ (by omega)]

set_option maxRecDepth 20000 in
set_option maxHeartbeats 1000000 in
theorem copyRows_any (v : Value) (ls : List (List UInt8)) (B : Nat) (w : World) (hsg : RowsAt (· < B) w v ls) (hB : B ≤ w.heap.size) (hl : ls.length ≤ 1048576) (hll : ∀ l ∈ ls, l.length ≤ 1000000) :
    Calls Tryz.prog 23 #[v] w fun e w' => ∃ u, e = .returned u ∧ RowsAt (fun b => w.heap.size ≤ b ∧ b < w'.heap.size) w' u ls ∧ Below w.heap.size w w' := by
  obtain ⟨vs, hvl, ⟨A, c, rfl, hc, hm, hat⟩, hrows⟩ := hsg
  have hm' : c ≤ 9223372036854775807 := by simpa [maxLen] using hm
  have HAT := Lib.hid hat; clear hat
  have HR := Lib.hid hrows; clear hrows
  have HVL := Lib.hid hvl; clear hvl
  have HLL := Lib.hid hll; clear hll
  have hown := Par.Own.new w w.heap.size 22 #[] [] rfl (Nat.le_refl _) (by simp)
  have hb0 : Below w.heap.size w (w.alloc (.cells #[] 22)) := (Below.refl _ w).alloc (Nat.le_refl _) _
  have H0 : Hid (Rowed w ls 0 _ [] _) := Lib.hid ⟨hb0, rfl, hown, fun i hi => by omega⟩
  clear hown hb0
  go_enter Tryz.func23, Tryz.ntmps23
  go_wp2
  go_loopw [3, 4] (fun s i wr => ∃ (k : Nat) (us : List Value), k ≤ vs.length ∧ i = .int .i64 k ∧ Hid (Rowed w ls k s us wr)) (fun _ i _ => vs.length - (intOf i).toNat)
  case atStart => exact ⟨0, [], by omega, rfl, H0⟩
  case round =>
    obtain ⟨k, us, hk, rfl, HRk⟩ := hrel
    obtain ⟨As, cs, hform⟩ := HRk.out.own.form
    rw [HRk.out.len] at hform
    subst hform
    by_cases hlt : k < vs.length
    · obtain ⟨b, off, rfl, hb, hcell⟩ := HAT.out (by omega)
      have hck : wr.cell? ⟨b, off + k, none⟩ = some (vs.getD k (.bool false)) := by
        rw [HRk.out.below.cell (p := ⟨b, off + k, none⟩) (by show b < _; omega), hcell k hlt, List.getD_eq_getElem?_getD, List.getElem?_eq_getElem hlt]
        rfl
      have hsk : Seg wr B (vs.getD k (.bool false)) (byteCells (ls.getD k [])) := Seg.below (B := B) (HR.out k (by rw [← HVL.out]; exact hlt)) (HRk.out.below.mono hB)
      have hkl : k < ls.length := by rw [← HVL.out]; exact hlt
      have hL : (ls.getD k []).length ≤ 1000000 := by
        rw [List.getD_eq_getElem?_getD, List.getElem?_eq_getElem hkl]
        exact HLL.out _ (List.getElem_mem hkl)
      generalize hLe : ls.getD k [] = L at *
      have HLe := Lib.hid hLe
      have HSK := Lib.hid hsk
      clear hsk hcell hLe
      obtain ⟨Au, cu, hcu, -⟩ := HSK.out
      have hz := HRk.out.below.size
      generalize vs.getD k (.bool false) = u at *
      subst hcu
      go_wp2_with fail
      refine (copyBytes_any _ L B wr HSK.out (by omega) hL).mono ?_
      rintro e w2 ⟨u2, rfl, hu2, hb2⟩
      have hown2 := (HRk.out.own.below hb2).alloc (.cells #[u2] 22)
      have hone := one_slices (Own.outS hu2 (F := fun _ => False) (fun _ h => h.elim))
      have hsg2 := Seg.new w2 22 #[u2] [u2] rfl (by simp [maxLen])
      obtain ⟨A2, c2, hform2⟩ := hu2.form
      have HU2 := Lib.hid hu2; have HB2 := Lib.hid hb2
      have hz2 := hb2.size
      have hlen := HRk.out.len
      have HLEN := Lib.hid hlen
      clear hu2 hb2 HSK
      subst hform2
      go_wp2_with (at_builtin; refine wpList_app _ rfl _ _ _ rfl w.heap.size 22 _ rowE _ _ rfl hown2 _ _ _ rfl hsg2 (fun x hx => by simp at hx; subst hx; exact hone) ?c1 ?c2 ?_)
      case c1 => simp; omega
      case c2 => simp; omega
      intro v3 w3 hown4 hg3 hat3
      have HN := Lib.hid (HRk.out.next HB2.out (by rw [HLe.out]; exact HU2.out) _ hown4 hg3 hat3)
      clear hown4 hg3 hat3
      obtain ⟨A3, c3, hform3⟩ := HN.out.own.form
      subst hform3
      clear HU2 HB2 hown2 hone hsg2
      go_wp2
      go_roundw
      case rel => exact ⟨k + 1, _, by omega, by go_num, HN⟩
      case measure => simp [intOf]; omega
    · have hkl : k = vs.length := by omega
      go_wp2
      go_ret
      refine ⟨_, rfl, ⟨us, by rw [HRk.out.len, hkl, HVL.out], ?_, fun i hi => ?_⟩, HRk.out.below⟩
      · have := Own.outS HRk.out.own (F := fun k => k < w.heap.size) (fun k hk => hk)
        exact this.keep fun b hb => ⟨⟨by have := hb.2; omega, hb.1⟩, rfl⟩
      · exact (HRk.out.cells i (by rw [hkl, HVL.out]; exact hi)).keep fun b hb => ⟨⟨hb.1, hb.2.1⟩, rfl⟩
end Go.Proofs.YtpdelgjfamelfaaGreat
/- V24 -/
namespace Go.Proofs.YtpdelgjfamelfaaGreat
open Go.RowKit Go.Lib Go.Vfs Go.Par
set_option linter.unusedVariables false
set_option linter.unusedSimpArgs false

/-- what act does. -/
def actSt (st : St) (o : OpR) : St × Int :=
  if o.what = 1 then stAppend st o.name.data.toList o.parts.flatten
  else if o.what = 2 then stTruncate st o.name.data.toList o.n
  else if o.what = 3 then stRename st o.name.data.toList o.other.data.toList
  else if o.what = 4 then stRemove st o.name.data.toList
  else if o.what = 5 then stSync st o.name.data.toList
  else (st, 0)

theorem OpPost.pre {w w1 w' : World} {p : Nat} {F : Nat → Prop} {r : St × Int} {e : Ending} (hb : Below w.heap.size w w1) (h : OpPost w1 p F r e w') : OpPost w p F r e w' := by
  obtain ⟨F', h1, h2, h3, h4⟩ := h
  exact ⟨F', h1, h2, (Kept.of_below hb).trans' h3, fun k hk => (h4 k hk).imp id (fun h => Nat.le_trans hb.size h)⟩

theorem RowsAt.few {S : Nat → Prop} {w : World} {v : Value} {ls : List (List UInt8)} (h : RowsAt S w v ls) : ∃ A n c, v = .slice A n c := by
  obtain ⟨vs, _, ⟨A, c, h, _⟩, _⟩ := h
  exact ⟨A, _, c, h⟩
theorem mem_flat_le {ls : List (List UInt8)} : ∀ {l : List UInt8}, l ∈ ls → l.length ≤ sizeP ls := by
  induction ls with
  | nil => intro l hl; cases hl
  | cons a r ih =>
    intro l hl
    simp only [sizeP, List.map_cons, List.sum_cons] at ih ⊢
    rcases List.mem_cons.1 hl with rfl | hl
    · omega
    · have := ih hl; omega
theorem length_sizeP (ls : List (List UInt8)) : ls.length ≤ sizeP ls := by
  induction ls with
  | nil => simp
  | cons a l ih => simp only [sizeP, List.map_cons, List.sum_cons, List.length_cons] at ih ⊢; omega
theorem flat_sizeP (ls : List (List UInt8)) : ls.flatten.length ≤ sizeP ls := by
  induction ls with
  | nil => simp
  | cons a l ih => simp only [sizeP, List.map_cons, List.sum_cons, List.flatten_cons, List.length_append] at ih ⊢; omega

theorem act_box {w w2 : World} {cs : Array Value} {t : TypeId} {i : Nat} {v : Value} {W : World} (hb : Below W.heap.size W w2) (hW : W = (w.alloc (.cells cs t)).drew) (hc : cs[i]? = some v) : w2.cell? ⟨w.heap.size, i, none⟩ = some v := by
  subst hW
  rw [hb.cell (p := ⟨w.heap.size, i, none⟩) (by show _ < (w.alloc _).heap.size; simp)]
  show (w.alloc _).cell? _ = _
  rw [World.cell?_alloc_mark]
  exact hc
theorem act_below {w w2 : World} {o : Obj} (hb : Below ((w.alloc o).drew).heap.size (w.alloc o).drew w2) : Below w.heap.size w w2 := by
  have h0 : Below w.heap.size w (w.alloc o).drew := ((Below.refl _ w).alloc (Nat.le_refl _) _).drew
  exact h0.trans (hb.mono h0.size)
theorem act_rows {w w2 : World} {p : Nat} {st : St} {F : Nat → Prop} {o : Obj} {u : Value} {ls : List (List UInt8)} (h : Fsy w p st F) (hu : RowsAt (fun b => ((w.alloc o).drew).heap.size ≤ b ∧ b < w2.heap.size) w2 u ls) (hb : Below ((w.alloc o).drew).heap.size (w.alloc o).drew w2) : RowsAt (Out w2 F) w2 u ls :=
  hu.keep fun b hb' => ⟨⟨hb'.2, fun hf => by
    have h1 := h.lt b hf
    have h2 : w.heap.size ≤ (w.alloc o).drew.heap.size := by show _ ≤ (w.alloc _).heap.size; simp
    have := hb'.1; omega⟩, rfl⟩
theorem act_modest {st : St} {ls : List (List UInt8)} (h : Modest st (sizeP ls)) : Modest st ls.flatten.length := by
  have := flat_sizeP ls
  obtain ⟨h1, h2, h3, h4⟩ := h
  exact ⟨fun f hf => by have := h1 f hf; omega, by omega, h3, h4⟩

end Go.Proofs.YtpdelgjfamelfaaGreat
/- V25 -/
namespace Go.Proofs.YtpdelgjfamelfaaGreat
open Go.RowKit Go.Lib Go.Vfs Go.Par
set_option linter.unusedVariables false
set_option linter.unusedSimpArgs false

theorem box_below (w : World) (o : Obj) : Below w.heap.size w (w.alloc o) := (Below.refl _ w).alloc (Nat.le_refl _) _

end Go.Proofs.YtpdelgjfamelfaaGreat
/- V26 -/
/- Plain: what a call does to the files, whatever the power; bounds; two file systems side by side. -/
namespace Go.Proofs.YtpdelgjfamelfaaGreat
open Go.RowKit Go.Lib Go.Vfs Go.Par
set_option linter.unusedVariables false
set_option linter.unusedSimpArgs false

/-- what a call answers where the power lasts: an error, or the files behind it. -/
def actF (fs : List File) (o : OpR) : Except Int (List File) :=
  if o.what = 1 then (if nameB o.name.data.toList then .ok (appF o.name.data.toList o.parts.flatten fs) else .error 10)
  else if o.what = 2 then (match stFind ⟨0, fs⟩ o.name.data.toList with | .error e => .error e | .ok f => if o.n < 0 ∨ (f.data.length : Int) < o.n then .error 12 else .ok (withL File.name ⟨f.name, f.data.take o.n.toNat, min f.safe o.n.toNat⟩ fs))
  else if o.what = 3 then (if nameB o.name.data.toList && nameB o.other.data.toList then (match stFind ⟨0, fs⟩ o.name.data.toList with | .error e => .error e | .ok f => .ok (withL File.name ⟨o.other.data.toList, f.data, f.safe⟩ (dropL File.name o.name.data.toList fs))) else .error 10)
  else if o.what = 4 then (match stFind ⟨0, fs⟩ o.name.data.toList with | .error e => .error e | .ok f => .ok (dropL File.name o.name.data.toList fs))
  else (match stFind ⟨0, fs⟩ o.name.data.toList with | .error e => .error e | .ok f => .ok (withL File.name ⟨f.name, f.data, f.data.length⟩ fs))

theorem find_pow (p q : Int) (fs : List File) (s : List UInt8) : stFind ⟨p, fs⟩ s = stFind ⟨q, fs⟩ s := rfl
theorem find_err {st : St} {s : List UInt8} {e : Int} (h : stFind st s = .error e) : e ≠ 0 := by
  unfold stFind at h
  split at h
  · split at h
    · cases h
    · cases h; decide
  · cases h; decide
theorem find_ok {st : St} {s : List UInt8} {f : File} (h : stFind st s = .ok f) : f ∈ st.files ∧ f.name = s ∧ nameB s = true := by
  unfold stFind at h
  split at h
  · rename_i hn
    split at h
    · rename_i g hg
      cases h
      have := findL_some hg
      exact ⟨this.1, this.2, hn⟩
    · cases h
  · cases h

/-- a call of the five. -/
def Call (o : OpR) : Prop := 1 ≤ o.what ∧ o.what ≤ 5
theorem actSt_err {fs : List File} {o : OpR} (hc : Call o) {e : Int} (h : actF fs o = .error e) (p : Int) : actSt ⟨p, fs⟩ o = (⟨p, fs⟩, e) ∧ e ≠ 0 := by
  obtain ⟨c1, c2⟩ := hc
  unfold actF at h
  unfold actSt
  by_cases h1 : o.what = 1
  · rw [if_pos h1] at h ⊢
    unfold stAppend
    split at h
    · cases h
    · rename_i hn; cases h; rw [if_neg hn]; exact ⟨rfl, by decide⟩
  rw [if_neg h1] at h ⊢
  by_cases h2 : o.what = 2
  · rw [if_pos h2] at h ⊢
    unfold stTruncate
    rw [find_pow p 0]
    split at h
    · rename_i hf; cases h; exact ⟨by rw [hf], find_err hf⟩
    · rename_i hf
      split at h
      · rename_i hr; cases h; rw [hf]; simp only []; rw [if_pos hr]; exact ⟨rfl, by decide⟩
      · cases h
  rw [if_neg h2] at h ⊢
  by_cases h3 : o.what = 3
  · rw [if_pos h3] at h ⊢
    unfold stRename
    rw [find_pow p 0]
    split at h
    · rename_i hn
      rw [if_pos hn]
      split at h
      · rename_i hf; cases h; exact ⟨by rw [hf], find_err hf⟩
      · cases h
    · rename_i hn; cases h; rw [if_neg hn]; exact ⟨rfl, by decide⟩
  rw [if_neg h3] at h ⊢
  by_cases h4 : o.what = 4
  · rw [if_pos h4] at h ⊢
    unfold stRemove
    rw [find_pow p 0]
    split at h
    · rename_i hf; cases h; exact ⟨by rw [hf], find_err hf⟩
    · cases h
  rw [if_neg h4] at h ⊢
  rw [if_pos (by omega)]
  unfold stSync
  rw [find_pow p 0]
  split at h
  · rename_i hf; cases h; exact ⟨by rw [hf], find_err hf⟩
  · cases h
theorem actSt_ok {fs fs' : List File} {o : OpR} (hc : Call o) (h : actF fs o = .ok fs') (p : Int) : actSt ⟨p, fs⟩ o = doSt ⟨p, fs⟩ fs' := by
  obtain ⟨c1, c2⟩ := hc
  unfold actF at h
  unfold actSt
  by_cases h1 : o.what = 1
  · rw [if_pos h1] at h ⊢
    unfold stAppend
    split at h
    · rename_i hn; cases h; rw [if_pos hn]
    · cases h
  rw [if_neg h1] at h ⊢
  by_cases h2 : o.what = 2
  · rw [if_pos h2] at h ⊢
    unfold stTruncate
    rw [find_pow p 0]
    split at h
    · cases h
    · rename_i hf
      split at h
      · cases h
      · rename_i hr; cases h; rw [hf]; simp only []; rw [if_neg hr]
  rw [if_neg h2] at h ⊢
  by_cases h3 : o.what = 3
  · rw [if_pos h3] at h ⊢
    unfold stRename
    rw [find_pow p 0]
    split at h
    · rename_i hn
      rw [if_pos hn]
      split at h
      · cases h
      · rename_i hf; cases h; rw [hf]
    · cases h
  rw [if_neg h3] at h ⊢
  by_cases h4 : o.what = 4
  · rw [if_pos h4] at h ⊢
    unfold stRemove
    rw [find_pow p 0]
    split at h
    · cases h
    · rename_i hf; cases h; rw [hf]
  rw [if_neg h4] at h ⊢
  rw [if_pos (by omega)]
  unfold stSync
  rw [find_pow p 0]
  split at h
  · cases h
  · rename_i hf; cases h; rw [hf]
theorem actSt_no {st : St} {o : OpR} (h : ¬ Call o) : actSt st o = (st, 0) := by
  unfold Call at h
  unfold actSt
  rw [if_neg (by omega), if_neg (by omega), if_neg (by omega), if_neg (by omega), if_neg (by omega)]

/-- few files, of short names, of few bytes. -/
structure Calm (fs : List File) (k d : Nat) : Prop where
  files : fs.length ≤ k
  names : ∀ f ∈ fs, nameB f.name = true
  data : ∀ f ∈ fs, f.data.length ≤ d
  safe : ∀ f ∈ fs, f.safe ≤ f.data.length
theorem Calm.nil : Calm [] 0 0 := ⟨by simp, by simp, by simp, by simp⟩
theorem Calm.mono {fs : List File} {k d k' d' : Nat} (h : Calm fs k d) (hk : k ≤ k') (hd : d ≤ d') : Calm fs k' d' := ⟨Nat.le_trans h.files hk, h.names, fun f hf => Nat.le_trans (h.data f hf) hd, h.safe⟩
theorem Calm.withL {fs : List File} {k d : Nat} (h : Calm fs k d) {f : File} (hn : nameB f.name = true) (hd : f.data.length ≤ d) (hs : f.safe ≤ f.data.length) : Calm (withL File.name f fs) (k + 1) d := by
  refine ⟨?_, fun g hg => ?_, fun g hg => ?_, fun g hg => ?_⟩
  · have := length_withL' (key := File.name) f fs; have := h.files; omega
  · rcases mem_withL.1 hg with rfl | ⟨hg, -⟩; exact hn; exact h.names g hg
  · rcases mem_withL.1 hg with rfl | ⟨hg, -⟩; exact hd; exact h.data g hg
  · rcases mem_withL.1 hg with rfl | ⟨hg, -⟩; exact hs; exact h.safe g hg
theorem Calm.dropL {fs : List File} {k d : Nat} (h : Calm fs k d) (s : List UInt8) : Calm (dropL File.name s fs) k d :=
  ⟨Nat.le_trans (List.length_filter_le _ _) h.files, fun g hg => h.names g (mem_dropL.1 hg).1, fun g hg => h.data g (mem_dropL.1 hg).1, fun g hg => h.safe g (mem_dropL.1 hg).1⟩
theorem Calm.app {fs : List File} {k d : Nat} (h : Calm fs k d) {s L : List UInt8} (hn : nameB s = true) : Calm (appF s L fs) (k + 1) (d + L.length) := by
  unfold appF
  refine (h.mono (Nat.le_refl _) (Nat.le_add_right d L.length)).withL ?_ ?_ ?_
  · split <;> exact hn
  · split
    · rename_i f hf; have := h.data f (findL_some hf).1; simp; omega
    · simp
  · split
    · rename_i f hf; have := h.safe f (findL_some hf).1; simp; omega
    · simp
theorem Calm.actF {fs fs' : List File} {k d : Nat} (h : Calm fs k d) {o : OpR} (ho : actF fs o = .ok fs') : Calm fs' (k + 1) (d + o.parts.flatten.length) := by
  have hle : d ≤ d + o.parts.flatten.length := Nat.le_add_right _ _
  have hm := h.mono (Nat.le_refl _) hle
  unfold YtpdelgjfamelfaaGreat.actF at ho
  split at ho
  · split at ho
    · rename_i hn; cases ho; exact h.app hn
    · cases ho
  split at ho
  · split at ho
    · cases ho
    · rename_i f hf
      obtain ⟨f1, f2, f3⟩ := find_ok hf
      split at ho
      · cases ho
      · cases ho
        have := hm.data f f1
        have := hm.safe f f1
        exact hm.withL (hm.names f f1) (by simp only [List.length_take]; omega) (by simp only [List.length_take]; omega)
  split at ho
  · split at ho
    · rename_i hn
      split at ho
      · cases ho
      · rename_i f hf
        obtain ⟨f1, f2, f3⟩ := find_ok hf
        cases ho
        simp at hn
        exact (hm.dropL _).withL hn.2 (hm.data f f1) (hm.safe f f1)
    · cases ho
  split at ho
  · split at ho
    · cases ho
    · cases ho; exact (hm.dropL _).mono (by omega) (Nat.le_refl _)
  split at ho
  · cases ho
  · rename_i f hf
    obtain ⟨f1, f2, f3⟩ := find_ok hf
    cases ho
    exact hm.withL (hm.names f f1) (hm.data f f1) (Nat.le_refl _)
theorem Calm.act {st : St} {k d : Nat} (h : Calm st.files k d) (o : OpR) : Calm (actSt st o).1.files (k + 1) (d + o.parts.flatten.length) := by
  by_cases hc : Call o
  · cases hf : YtpdelgjfamelfaaGreat.actF st.files o with
    | error e => rw [(actSt_err (fs := st.files) hc hf st.power).1]; exact h.mono (by omega) (by omega)
    | ok fs' =>
      rw [actSt_ok (fs := st.files) hc hf st.power]
      unfold doSt
      split
      · exact h.mono (by omega) (by omega)
      · exact h.actF hf
  · rw [actSt_no hc]; exact h.mono (by omega) (by omega)
theorem power_act (st : St) (o : OpR) : (actSt st o).1.power = st.power ∨ (actSt st o).1.power = dec st.power := by
  by_cases hc : Call o
  · cases hf : actF st.files o with
    | error e => left; rw [(actSt_err (fs := st.files) hc hf st.power).1]
    | ok fs' =>
      rw [actSt_ok (fs := st.files) hc hf st.power]
      unfold doSt
      split
      · exact .inl rfl
      · exact .inr rfl
  · left; rw [actSt_no hc]
theorem power_le (st : St) (o : OpR) (h : st.power ≤ 9223372036854775807) : (actSt st o).1.power ≤ 9223372036854775807 := by
  rcases power_act st o with e | e <;> rw [e]
  · exact h
  · unfold dec; split <;> omega
theorem Calm.modest {st : St} {k d n : Nat} (h : Calm st.files k d) (hp : st.power ≤ 9223372036854775807) (hk : k < 2147483648) (hd : d + n ≤ 2147483648) : Modest st n :=
  ⟨fun f hf => by have := h.data f hf; omega, by omega, by have := h.files; omega, hp⟩

/-- two file systems side by side, new since B. -/
structure Two (B : Nat) (w0 w : World) (p : Nat) (st : St) (F : Nat → Prop) (q : Nat) (st' : St) (G : Nat → Prop) : Prop where
  one : Held B w0 w p st F
  two : Fsy w q st' G
  new : ∀ k, G k → B ≤ k
  apart : ∀ k, F k → ¬ G k
theorem Two.swap {B : Nat} {w0 w : World} {p : Nat} {st : St} {F : Nat → Prop} {q : Nat} {st' : St} {G : Nat → Prop} (h : Two B w0 w p st F q st' G) : Two B w0 w q st' G p st F :=
  ⟨⟨h.two, h.new, h.one.below⟩, h.one.fs, h.one.new, fun k hg hf => h.apart k hf hg⟩
theorem Two.op {B : Nat} {w0 w w' : World} {p : Nat} {st st2 : St} {F F' : Nat → Prop} {q : Nat} {st' : St} {G : Nat → Prop} (h : Two B w0 w p st F q st' G) (hB : B ≤ w0.heap.size) (h1 : Fsy w' p st2 F') (h2 : Kept F w w') (h3 : Grows w F F') : Two B w0 w' p st2 F' q st' G :=
  ⟨h.one.op hB h1 h2 h3, h.two.keep fun k hk => h2.block k (h.two.lt k hk) (fun hf => h.apart k hf hk), h.new, fun k hf hg => by
    rcases h3 k hf with a | a
    · exact h.apart k a hg
    · have := h.two.lt k hg; omega⟩
theorem Two.go {B : Nat} {w0 w w' : World} {p : Nat} {st : St} {F : Nat → Prop} {q : Nat} {st' : St} {G : Nat → Prop} (h : Two B w0 w p st F q st' G) (hB : B ≤ w0.heap.size) (hb : Below w.heap.size w w') : Two B w0 w' p st F q st' G :=
  ⟨h.one.go hB hb, h.two.below hb, h.new, h.apart⟩
end Go.Proofs.YtpdelgjfamelfaaGreat
/- V27 -/
namespace Go.Proofs.YtpdelgjfamelfaaGreat
open Go.RowKit Go.Lib Go.Vfs Go.Par
set_option linter.unusedVariables false
set_option linter.unusedSimpArgs false

/-- the cells of an Op in a block. -/
def Six (w : World) (b off : Nat) (o : OpR) : Prop :=
  w.cell? ⟨b, off + 0, none⟩ = some (.int .i64 o.what) ∧ w.cell? ⟨b, off + 1, none⟩ = some (.int .i64 o.n) ∧ w.cell? ⟨b, off + 2, none⟩ = some (.string o.name) ∧ w.cell? ⟨b, off + 3, none⟩ = some (.string o.other) ∧ w.cell? ⟨b, off + 4, none⟩ = some o.pv ∧ w.cell? ⟨b, off + 5, none⟩ = some o.kv
theorem SegO.six {w : World} {B : Nat} {A : Option Addr} {n c : Nat} {os : List OpR} (h : SegO w B (.slice A n c) os) (k : Nat) (hk : k < os.length) : ∃ b off, A = some ⟨b, off, none⟩ ∧ b < B ∧ Six w b (off + k * 6) os[k] := by
  obtain ⟨A', c', e, h2, h3, h4, h5⟩ := h
  injection e with e1 e2 e3
  subst e1 e3
  obtain ⟨b, off, e, hb, hc⟩ := h5 k hk
  exact ⟨b, off, e, hb, hc 0 (by omega), hc 1 (by omega), hc 2 (by omega), hc 3 (by omega), hc 4 (by omega), hc 5 (by omega)⟩
theorem SegO.form {w : World} {B : Nat} {v : Value} {os : List OpR} (h : SegO w B v os) : ∃ A c, v = .slice A os.length c ∧ os.length ≤ c ∧ c ≤ 9223372036854775807 := by
  obtain ⟨A, c, h1, h2, h3, -⟩ := h
  exact ⟨A, c, h1, h2, h3⟩
theorem SegO.op {w : World} {B : Nat} {v : Value} {os : List OpR} (h : SegO w B v os) (k : Nat) (hk : k < os.length) : OpAt w B os[k] := by
  obtain ⟨A, c, h1, h2, h3, h4, -⟩ := h
  exact h4 _ (List.getElem_mem hk)
theorem OpAt.forms {w : World} {B : Nat} {o : OpR} (h : OpAt w B o) : (∃ A n c, o.pv = .slice A n c) ∧ ∃ A n c, o.kv = .slice A n c := by
  obtain ⟨h1, ⟨A, c, h2, -⟩, -⟩ := h
  exact ⟨h1.few, A, _, c, h2⟩
theorem Six.kept {w w' : World} {F : Nat → Prop} {b off : Nat} {o : OpR} (h : Six w b off o) (hk : Kept F w w') (hb : b < w.heap.size) (hn : ¬ F b) : Six w' b off o := by
  have e : ∀ i, w'.cell? ⟨b, i, none⟩ = w.cell? ⟨b, i, none⟩ := fun i => hk.cell (p := ⟨b, i, none⟩) hb hn
  unfold Six
  simp only [e]
  exact h

theorem sizeO_nth (os : List OpR) (k : Nat) (hk : k < os.length) : sizeO (os.take k) + sizeP os[k].parts ≤ sizeO os := by
  rw [← sizeO_succ os k hk]
  exact sizeO_take os _
theorem cells_alloc6 (w : World) (o : OpR) (t : TypeId) : Six (w.alloc (.cells #[.int .i64 o.what, .int .i64 o.n, .string o.name, .string o.other, o.pv, o.kv] t)) w.heap.size 0 o := by
  unfold Six
  simp [World.cell?_alloc_mark]

/-- where the loop of VfsPower stands. -/
structure PowI (W w : World) (os : List OpR) (power : Int) (k : Nat) (p : Nat) (F : Nat → Prop) (q : Nat) (G : Nat → Prop) (left : Int) (fs : List File) : Prop where
  two : Two W.heap.size W w p ⟨left, fs⟩ F q ⟨-1, fs⟩ G
  calm : Calm fs k (sizeO (os.take k))
  left0 : 0 ≤ left
  left1 : left ≤ 9223372036854775807

theorem SegO.same {w w' : World} {B : Nat} {v : Value} {os : List OpR} (h : SegO w B v os) (hk : ∀ b, b < B → w'.heap[b]? = w.heap[b]?) : SegO w' B v os := by
  obtain ⟨A, c, h1, h2, h3, h4, h5⟩ := h
  have hc : ∀ b o, b < B → w'.cell? ⟨b, o, none⟩ = w.cell? ⟨b, o, none⟩ := fun b o hb => World.cell?_of_block (a := ⟨b, o, none⟩) (hk b hb)
  refine ⟨A, c, h1, h2, h3, fun o ho => ?_, fun i hi => ?_⟩
  · have ho' := h4 o ho
    exact ⟨ho'.rows.keep fun b hb => ⟨hb, hk b hb⟩, ho'.ints.keep fun b o hb => hc b o hb, ho'.name, ho'.other, ho'.few⟩
  · obtain ⟨b, off, e, hbb, hcc⟩ := h5 i hi
    exact ⟨b, off, e, hbb, fun j hj => by rw [hc b _ hbb]; exact hcc j hj⟩
theorem SegO.back {w w' : World} {B : Nat} {v : Value} {os : List OpR} (h : SegO w' B v os) (hb : Below B w w') : SegO w B v os := h.same fun b hlt => (hb.block b hlt).symm

theorem PowI.same {W w w' : World} {os : List OpR} {power : Int} {k p : Nat} {F F' : Nat → Prop} {q : Nat} {G G' : Nat → Prop} {left : Int} {fs : List File} (h : PowI W w os power k p F q G left fs) (h2 : Two W.heap.size W w' p ⟨left, fs⟩ F' q ⟨-1, fs⟩ G') (hk : k < os.length) : PowI W w' os power (k + 1) p F' q G' left fs :=
  ⟨h2, h.calm.mono (by omega) (by rw [sizeO_succ os k hk]; omega), h.left0, h.left1⟩
theorem dec_le (x : Int) : dec x ≤ x := by unfold dec; split <;> omega
end Go.Proofs.YtpdelgjfamelfaaGreat
