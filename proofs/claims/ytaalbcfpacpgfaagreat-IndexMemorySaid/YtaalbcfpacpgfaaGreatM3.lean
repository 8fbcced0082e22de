/- Merged of V16 V17 VP V18 V19 VA V20 V21 V22 V23 V24 V25 V26 V27. -/
import Derived.Test.YtaalbcfpacpgfaaGreatM2
import Derived.Lib.SmallJoins
import Derived.Lib.SlBytesConst
import Derived.HandedShaped
import Derived.Deep.RegionWith
/- V16 -/
namespace Go.Proofs.YtaalbcfpacpgfaaGreat
open Go.RowKit Go.Par Go.Vfs
set_option linter.unusedVariables false

set_option maxHeartbeats 400000 in
theorem sameBytes_any (u v : Value) (xs ys : List UInt8) (B : Nat) (w : World) (hu : Seg w B u (Lib.byteCells xs)) (hv : Seg w B v (Lib.byteCells ys)) :
    Calls Tryz.prog 40 #[u, v] w fun e w' => e = .returned (.bool (decide (xs = ys))) ∧ ∃ n, w' = w.drewN n := by
  obtain ⟨A, c, rfl, hc, hm, ha⟩ := hu.open_bytes
  obtain ⟨A', c', rfl, hc', hm', ha'⟩ := hv.open_bytes
  clear hu hv
  by_cases hl : xs.length = ys.length
  · have hne : ((xs.length : Int) != (ys.length : Int)) = false := by simp [hl]
    have Hl := Lib.hid hl
    clear hl
    go_enter Tryz.func40, Tryz.ntmps40
    go_wp2
    go_loopw [5] (fun i wr => ∃ k n : Nat, k ≤ xs.length ∧ i = .int .i64 k ∧ Agree k xs ys ∧ wr = w.drewN n) (fun i _ => xs.length - (intOf i).toNat)
    case atStart => exact ⟨0, 0, by omega, rfl, Agree.zero _ _, rfl⟩
    case round =>
      obtain ⟨k, n, hk, rfl, hal, rfl⟩ := hrel
      by_cases hlt : k < xs.length
      · have hlt' : k < ys.length := by have := Hl.out; omega
        obtain ⟨b, off, x, rfl, hb, hc1, hx, Hx⟩ := ha.byte hlt
        obtain ⟨b', off', y, rfl, hb', hc2, hy, Hy⟩ := ha'.byte hlt'
        have HA := Lib.hid ha; clear ha
        have HA' := Lib.hid ha'; clear ha'
        by_cases he : x = y
        · have hbe : ((x : Int) != (y : Int)) = false := by simp [he]
          have He := Lib.hid he
          clear he
          go_wp2
          go_quiet (fail)
          go_wp2
          go_roundw
          case rel => exact ⟨k + 1, _, by omega, by go_num, hal.step hlt hlt' 0 (UInt8.toNat_inj.1 (by rw [Hx.out, Hy.out, He.out])), rfl⟩
          case measure => simp [intOf]; omega
        · have hbe : ((x : Int) != (y : Int)) = true := by simp; omega
          have He := Lib.hid he
          clear he
          go_wp2
          go_quiet (fail)
          go_wp2
          go_ret
          refine ⟨ret_bool ?_, _, World.drewN_drewN _ _ _⟩
          have h1 := Hx.out
          have h2 := Hy.out
          have h3 := He.out
          simp
          rintro rfl
          exact h3 (h1.symm.trans h2)
      · have hkl : k = xs.length := by omega
        have Hk := Lib.hid hkl
        clear hkl
        go_wp2
        go_ret
        refine ⟨ret_bool ?_, _, rfl⟩
        rw [Hk.out] at hal
        simp [hal.whole Hl.out]
  · have hne : ((xs.length : Int) != (ys.length : Int)) = true := by simp; omega
    have Hl := Lib.hid hl
    clear hl
    go_enter Tryz.func40, Tryz.ntmps40
    go_wp2
    go_ret
    refine ⟨ret_bool ?_, 0, rfl⟩
    have := Hl.out
    simp
    rintro rfl
    exact this rfl

/- texts. -/
theorem Seg.open_strs {w : World} {B : Nat} {v : Value} {ls : List (List UInt8)} (h : Seg w B v (strs ls)) :
    ∃ A c, v = .slice A ls.length c ∧ ls.length ≤ c ∧ c ≤ 9223372036854775807 ∧ At w B A ls.length (fun i => .string ⟨(ls.getD i []).toArray⟩) := by
  obtain ⟨A, c, rfl, h2, h3, h4⟩ := h
  rw [strs_length] at h2 h4
  refine ⟨A, c, by rw [strs_length], h2, by simpa [maxLen] using h3, fun i hi => ?_⟩
  obtain ⟨b, off, e, hb, hc⟩ := h4 (by omega)
  refine ⟨b, off, e, hb, (hc i hi).trans ?_⟩
  simp [strs, hi, List.getD_eq_getElem?_getD]
theorem At.str {w : World} {B n k : Nat} {A : Option Addr} {ls : List (List UInt8)} (h : At w B A n (fun i => .string ⟨(ls.getD i []).toArray⟩)) (hk : k < n) :
    ∃ b off x, A = some ⟨b, off, none⟩ ∧ b < B ∧ w.cell? ⟨b, off + k, none⟩ = some (.string ⟨x.toArray⟩) ∧ Hid (ls.getD k [] = x) := by
  obtain ⟨b, off, e, hb, hc⟩ := h k hk
  exact ⟨b, off, _, e, hb, hc, Lib.hid rfl⟩
end Go.Proofs.YtaalbcfpacpgfaaGreat
/- V17 -/
namespace Go.Proofs.YtaalbcfpacpgfaaGreat
open Go.RowKit Go.Lib Go.Vfs Go.Par
set_option linter.unusedVariables false

/- rows that a statement has just laid. -/
theorem SegS.new {w : World} {F : Nat → Prop} (hF : ∀ k, F k → k < w.heap.size) (xs : List Value) (cs : Array Value) (hcs : cs = xs.toArray) (n : Nat) (hn : xs.length = n) (hm : n ≤ maxLen) (t : TypeId) (fr : Nat × Nat) (g : Nat) (hg : g = w.heap.size) :
    SegS (Out (w.alloc (.cells cs t fr)) F) (w.alloc (.cells cs t fr)) (.slice (some ⟨g, 0, none⟩) n n) xs := by
  subst hcs hn hg
  refine ⟨_, _, rfl, Nat.le_refl _, hm, fun _ => ⟨_, _, rfl, ⟨by simp, fun h => by have := hF _ h; omega⟩, fun i hi => ?_⟩⟩
  rw [World.cell?_alloc_mark]
  simp
theorem SegS.alloc {w : World} {F : Nat → Prop} {v : Value} {xs : List Value} (h : SegS (Out w F) w v xs) (o : Obj) : SegS (Out (w.alloc o) F) (w.alloc o) v xs := h.below ((Below.refl _ w).alloc (Nat.le_refl _) _)
theorem Fsy.below {w w' : World} {p : Nat} {st : St} {F : Nat → Prop} (h : Fsy w p st F) (hb : Below w.heap.size w w') : Fsy w' p st F := h.keep fun k hk => hb.block k (h.lt k hk)
theorem Fsy.alloc {w : World} {p : Nat} {st : St} {F : Nat → Prop} (h : Fsy w p st F) (o : Obj) : Fsy (w.alloc o) p st F := h.below ((Below.refl _ w).alloc (Nat.le_refl _) _)
/-- a file system whose blocks are new since B, in a world that leaves what lay below B. -/
structure Held (B : Nat) (w0 w : World) (p : Nat) (st : St) (F : Nat → Prop) : Prop where
  fs : Fsy w p st F
  new : ∀ k, F k → B ≤ k
  below : Below B w0 w
theorem Held.op {B : Nat} {w0 w w' : World} {p : Nat} {st : St} {F F' : Nat → Prop} (h : Held B w0 w p st F) (hB : B ≤ w0.heap.size) {st' : St} (h1 : Fsy w' p st' F') (h2 : Kept F w w') (h3 : Grows w F F') : Held B w0 w' p st' F' := by
  have hs : B ≤ w.heap.size := Nat.le_trans hB h.below.size
  exact ⟨h1, fun k hk => by rcases h3 k hk with a | a; exact h.new k a; omega, h.below.trans (h2.below hs h.new)⟩
theorem Held.go {B : Nat} {w0 w w' : World} {p : Nat} {st : St} {F : Nat → Prop} (h : Held B w0 w p st F) (hB : B ≤ w0.heap.size) (hb : Below w.heap.size w w') : Held B w0 w' p st F :=
  ⟨h.fs.below hb, h.new, h.below.trans (hb.mono (Nat.le_trans hB h.below.size))⟩

theorem Held.size {B : Nat} {w0 w : World} {p : Nat} {st : St} {F : Nat → Prop} (h : Held B w0 w p st F) (hB : B ≤ w0.heap.size) : B ≤ w.heap.size := Nat.le_trans hB h.below.size
theorem Held.append {B : Nat} {w0 w : World} {p : Nat} {st : St} {F : Nat → Prop} (h : Held B w0 w p st F) (hB : B ≤ w0.heap.size) {s : ByteArray} (hs : s.size ≤ 9223372036854775807) {v : Value} {ls : List (List UInt8)} (hp : RowsAt (Out w F) w v ls) (hm : Modest st ls.flatten.length) :
    Calls Tryz.prog 46 #[.pointer (some ⟨p, 0, none⟩), .string s, v] w fun e w' => ∃ F', e = .returned (.int .i64 (stAppend st s.data.toList ls.flatten).2) ∧ Held B w0 w' p (stAppend st s.data.toList ls.flatten).1 F' ∧ Kept F w w' ∧ Grows w F F' := by
  refine (append_any w p st F h.fs s hs v ls hp hm).mono ?_
  rintro e w' ⟨F', h1, h2, h3, h4⟩
  exact ⟨F', h1, h.op hB h2 h3 h4, h3, h4⟩
theorem Held.sync {B : Nat} {w0 w : World} {p : Nat} {st : St} {F : Nat → Prop} (h : Held B w0 w p st F) (hB : B ≤ w0.heap.size) {s : ByteArray} (hs : s.size ≤ 9223372036854775807) (hpw : st.power ≤ 9223372036854775807) :
    Calls Tryz.prog 110 #[.pointer (some ⟨p, 0, none⟩), .string s] w fun e w' => ∃ F', e = .returned (.int .i64 (stSync st s.data.toList).2) ∧ Held B w0 w' p (stSync st s.data.toList).1 F' ∧ Kept F w w' ∧ Grows w F F' := by
  refine (sync_any w p st F h.fs s hs hpw).mono ?_
  rintro e w' ⟨F', h1, h2, h3, h4⟩
  exact ⟨F', h1, h.op hB h2 h3 h4, h3, h4⟩

end Go.Proofs.YtaalbcfpacpgfaaGreat
/- VP -/
namespace Go.Proofs.YtaalbcfpacpgfaaGreat
open Go.RowKit Go.Lib Go.Vfs Go.Par
set_option linter.unusedVariables false

theorem findL_cons {α : Type} {key : α → List UInt8} (s : List UInt8) (y : α) (l : List α) : findL key s (y :: l) = if key y = s then some y else findL key s l := by
  unfold findL
  rw [List.find?_cons]
  by_cases h : key y = s
  · simp [h]
  · have : (key y == s) = false := beq_eq_false_iff_ne.2 h
    rw [this, if_neg h]
theorem findL_putL_ne {α : Type} {key : α → List UInt8} {s : List UInt8} {x : α} (h : key x ≠ s) : ∀ l : List α, findL key s (putL key x l) = findL key s l
  | [] => by simp [putL, findL, h]
  | y :: r => by
    unfold putL
    split
    · rw [findL_cons, if_neg h]
    · rw [findL_cons, findL_cons, findL_putL_ne h r]
theorem findL_putL_self {α : Type} {key : α → List UInt8} {x : α} : ∀ l : List α, (∀ y ∈ l, key y ≠ key x) → findL key (key x) (putL key x l) = some x
  | [], _ => by simp [putL, findL]
  | y :: r, h => by
    unfold putL
    split
    · rw [findL_cons, if_pos rfl]
    · rw [findL_cons, if_neg (h y (by simp)), findL_putL_self r (fun z hz => h z (by simp [hz]))]
theorem findL_dropL_ne {α : Type} {key : α → List UInt8} {s t : List UInt8} (h : s ≠ t) : ∀ l : List α, findL key s (dropL key t l) = findL key s l
  | [] => rfl
  | y :: r => by
    have ih := findL_dropL_ne h r (key := key)
    unfold dropL at ih ⊢
    rw [List.filter_cons]
    by_cases hy : key y = t
    · have : (!(key y == t)) = false := by simp [hy]
      rw [this, findL_cons, if_neg (show ¬ key y = s from fun e => h (e.symm.trans hy))]
      simpa using ih
    · have : (!(key y == t)) = true := by simp [hy]
      rw [this, if_pos rfl, findL_cons, findL_cons, ih]
theorem findL_dropL_self {α : Type} {key : α → List UInt8} (s : List UInt8) (l : List α) : findL key s (dropL key s l) = none := by
  unfold findL dropL
  rw [List.find?_eq_none]
  intro x hx
  simpa using (List.mem_filter.1 hx).2
theorem findL_withL_self {α : Type} {key : α → List UInt8} (x : α) (l : List α) : findL key (key x) (withL key x l) = some x :=
  findL_putL_self _ fun y hy => (mem_dropL.1 hy).2
theorem findL_withL_ne {α : Type} {key : α → List UInt8} {x : α} {s : List UInt8} (h : key x ≠ s) (l : List α) : findL key s (withL key x l) = findL key s l := by
  unfold withL
  rw [findL_putL_ne h, findL_dropL_ne (fun e => h e.symm)]

theorem stFind_of {st : St} {s : List UInt8} {f : File} (hn : nameB s = true) (h : findL File.name s st.files = some f) : stFind st s = .ok f := by unfold stFind; rw [hn, h]; rfl
theorem stFind_none {st : St} {s : List UInt8} (hn : nameB s = true) (h : findL File.name s st.files = none) : stFind st s = .error 11 := by unfold stFind; rw [hn, h]; rfl
theorem name_len {s : List UInt8} (h : nameB s = true) : s.length ≤ 32 := by
  unfold nameB at h
  simp at h
  exact h.1.2
/- the two files of VfsRename. -/
def st2 (a c x y : List UInt8) : St := ⟨-1, appF c y [⟨a, x, 0⟩]⟩
theorem length_putL' {α : Type} {key : α → List UInt8} (x : α) : ∀ l : List α, (putL key x l).length = l.length + 1
  | [] => rfl
  | y :: r => by unfold putL; split <;> simp [length_putL' x r]
theorem length_withL' {α : Type} {key : α → List UInt8} (x : α) (l : List α) : (withL key x l).length ≤ l.length + 1 := by
  unfold withL
  rw [length_putL']
  have : (dropL key (key x) l).length ≤ l.length := List.length_filter_le _ _
  omega
end Go.Proofs.YtaalbcfpacpgfaaGreat
/- V18 -/
namespace Go.Proofs.YtaalbcfpacpgfaaGreat
open Go.RowKit Go.Lib Go.Vfs Go.Par
set_option linter.unusedVariables false

theorem below_drewN {n : Nat} {w w' : World} (h : Below n w w') (k : Nat) : Below n w (w'.drewN k) := ⟨h.os, h.tape, h.output, h.size, h.block⟩

end Go.Proofs.YtaalbcfpacpgfaaGreat
/- V19 -/
namespace Go.Proofs.YtaalbcfpacpgfaaGreat
open Go.RowKit Go.Lib Go.Vfs Go.Par
set_option linter.unusedVariables false

/-- the bytes of a slice of one's own are written, one by one; nothing else is. -/
def Flip (w : World) (A : Option Addr) (n : Nat) (wr : World) : Prop :=
  Kept (fun k => A.map (·.block) = some k) w wr ∧ wr.heap.size = w.heap.size ∧ ∀ j, j < n → ∃ g m, A = some ⟨g, 0, none⟩ ∧ wr.cell? ⟨g, j, none⟩ = some (.int .u8 m) ∧ wr.frozen? ⟨g, j, none⟩ = false
theorem Flip.start {w : World} {base : Nat} {A : Option Addr} {c : Nat} {l : List UInt8} (h : Par.Own w base 5 (.slice A l.length c) (byteCells l)) : Flip w A l.length w := by
  refine ⟨Kept.refl _ _, rfl, fun j hj => ?_⟩
  obtain ⟨_, ⟨e, h0⟩ | ⟨g, cap, cur, e, hb, hg, h1, h2, h3, h4⟩⟩ := h
  · rw [byteCells_length] at h0; omega
  · rw [byteCells_length] at e h4 h1
    injection e with e1 e2 e3
    subst e1
    have hc : cur.toList[j]? = (byteCells l)[j]? := by
      rw [← h4, List.getElem?_take_of_lt]
      omega
    refine ⟨g, (l[j].toNat : Int), rfl, ?_, ?_⟩
    · rw [Go.Joins.cell_of_block hg]
      rw [← Array.getElem?_toList, hc]
      simp [byteCells, hj]
    · exact Go.Joins.unfrozen_of_block hg j
theorem Flip.step {w wr : World} {g n : Nat} (h : Flip w (some ⟨g, 0, none⟩) n wr) (k : Nat) (x : Int) : Flip w (some ⟨g, 0, none⟩) n (wr.setCell ⟨g, k, none⟩ (.int .u8 x)) := by
  obtain ⟨h1, h2, h3⟩ := h
  refine ⟨h1.setCell (p := ⟨g, k, none⟩) (.inl rfl) _, by rw [← h2]; simp, fun j hj => ?_⟩
  obtain ⟨g', m, e, hc, hf⟩ := h3 j hj
  cases e
  obtain ⟨m', hm⟩ := someInt_setCell ⟨m, hc⟩ ⟨g, k, none⟩ x
  exact ⟨g, m', rfl, hm, by rw [World.frozen?_setCell]; exact hf⟩
theorem Flip.held {B : Nat} {w0 w wr : World} {p : Nat} {st : St} {F : Nat → Prop} {A : Option Addr} {n : Nat} (h : Flip w A n wr) (H : Held B w0 w p st F) (hB : B ≤ w0.heap.size) (hg : ∀ g, A.map (·.block) = some g → ¬ F g ∧ B ≤ g) : Held B w0 wr p st F :=
  ⟨H.fs.keep fun k hk => h.1.block k (H.fs.lt k hk) (fun e => (hg k e).1 hk), H.new, H.below.trans (h.1.below (H.size hB) fun k hk => (hg k hk).2)⟩
theorem Flip.drewN {w wr : World} {A : Option Addr} {n : Nat} (h : Flip w A n wr) (m : Nat) : Flip w A n (wr.drewN m) := ⟨h.1.drewN m, h.2.1, h.2.2⟩

theorem slice_front (A : Option Addr) (n c N : Nat) (w : World) (h : N ≤ c) : (Instr.slice 24 (.slice A n c) none (some (.int .i64 (N : Int))) none).run Tryz.prog w = .ok (.slice A N c) w := by
  have ht' : Tryz.prog.underlying 24 = some (.slice (Tryz.prog.elem 24)) := by simp [Program.elem, Tryz.underlying24]
  have he : Tryz.prog.elem 24 = 5 := by simp [Program.elem, Tryz.underlying24]
  rw [run_slice_h w 24 _ _ _ ht' .i64 _ (by omega) (by omega), he, Tryz.sizeOf5]
  simp only [Result.andThen, sliced]
  cases A <;> simp [Addr.add]
theorem seg_front {w : World} {B : Nat} {A : Option Addr} {c : Nat} {l r : List UInt8} (h : Seg w B (.slice A (l ++ r).length c) (byteCells (l ++ r))) : l.length ≤ c ∧ Seg w B (.slice A l.length c) (byteCells l) := by
  obtain ⟨A', c', e, h1, h2, h3⟩ := h
  rw [byteCells_length] at e h1 h3
  injection e with e1 e2 e3
  subst e1 e3
  have h4 : l.length ≤ c := by simp at h1; omega
  refine ⟨h4, A, c, by rw [byteCells_length], by rw [byteCells_length]; exact h4, h2, fun hp => ?_⟩
  rw [byteCells_length] at hp
  obtain ⟨b, off, e, hb, hc⟩ := h3 (by simp; omega)
  refine ⟨b, off, e, hb, fun i hi => ?_⟩
  rw [byteCells_length] at hi
  rw [hc i (by simp; omega), byteCells_append, List.getElem?_append_left (by rw [byteCells_length]; exact hi)]
end Go.Proofs.YtaalbcfpacpgfaaGreat
/- VA -/
/- Append where the bytes are counted. -/
namespace Go.Par
open Go.RowKit Go.Lib
set_option linter.unusedVariables false
structure ElemB (P : Program) (t e : TypeId) (z : Value) (bytes : Nat) : Prop where
  und : P.underlying t = some (.slice e)
  info : ∃ i, P.info? e = some i ∧ i.zero = some z ∧ i.size = 1 ∧ i.bytes = bytes
  one : z.cells.size = 1
  few : bytes ≤ 64
theorem ElemB.plain {P : Program} {t e : TypeId} {z : Value} {bytes : Nat} (h : ElemB P t e z bytes) : Elem P t e z := by
  obtain ⟨i, h1, h2, h3, h4⟩ := h.info
  exact ⟨h.und, ⟨i, bytes, h1, h2, h3, h4, h.few⟩, h.one⟩
theorem elemB_of {P : Program} {t e : TypeId} {z : Value} {b : Nat} (ht : P.underlying t = some (.slice e)) (h : (P.info? e).map (fun i => (i.zero, i.size, i.bytes)) = some (some z, 1, b)) (hb : b ≤ 64) (h1 : z.cells.size = 1) : ElemB P t e z b := by
  obtain ⟨i, hi, h0, h2, h3⟩ := info_parts h
  exact ⟨ht, ⟨i, hi, h0, h2, h3⟩, h1, hb⟩
section
variable {P : Program} (w : World)

/-- what append leaves. -/
theorem run_appB (base : Nat) (t ty e : TypeId) (z : Value) (bytes : Nat) (E : ElemB P t e z bytes) (v : Value) (xs : List Value) (hown : Own w base e v xs)
    (B : Nat) (u : Value) (news : List Value) (hs : Seg w B u news) (h1 : ∀ x ∈ news, x.oneCell' = true)
    (hbd : (xs.length + news.length) * bytes ≤ 140737488355328) (hby1 : 1 ≤ bytes) (hbase : base ≤ w.heap.size) :
    ∃ v' w', (Builtin.append_ #[t, t] ty #[v, u]).run P w = .ok v' w' ∧ Own w' base e v' (xs ++ news) ∧ w.grownBy w' v.ownBlock ∧
      (v'.ownBlock = v.ownBlock ∨ v'.ownBlock = some w.heap.size) := by
  obtain ⟨i, hi, hz, hsz, hby⟩ := E.info
  have hbd1 : xs.length + news.length ≤ 140737488355328 := Nat.le_trans (Nat.le_mul_of_pos_right _ hby1) hbd
  obtain ⟨A, c, rfl, hc, hm, ha⟩ := hs
  have key : ∀ ad : Addr, A = some ad → (∀ j x, news[j]? = some x → w.cell? (ad.add j) = some x) → ∃ v' w', (Builtin.append_ #[t, t] ty #[v, .slice A news.length c]).run P w = .ok v' w' ∧ Own w' base e v' (xs ++ news) ∧ w.grownBy w' v.ownBlock ∧
      (v'.ownBlock = v.ownBlock ∨ v'.ownBlock = some w.heap.size) := by
    rintro ad rfl hcells
    have hb2 := hbd
    obtain ⟨v', w', hr, h2, h3, _, h5⟩ := run_append_own_at (P := P) w base t ty e i z 1 bytes E.und hi hz hsz hby E.one (by decide) v xs.length xs hown ad news.length c news (by simp) hcells h1 (by simp only [maxLen]; omega) hb2 hbase
    refine ⟨v', w', hr, ?_, h3, h5⟩
    unfold Own
    rw [List.length_append]
    exact h2
  rcases Nat.eq_zero_or_pos news.length with h0 | hp
  · have hn : news = [] := List.eq_nil_of_length_eq_zero h0
    subst hn
    rcases A with _ | ad
    · exact ⟨v, w, run_app_nil w base t ty e z E.plain v xs hown c, by simpa using hown, World.grownBy.refl w _, .inl rfl⟩
    · exact key ad rfl (fun j x hj => by simp at hj)
  · obtain ⟨b, off, rfl, _, hcell⟩ := ha hp
    refine key _ rfl (fun j x hj => ?_)
    rw [add_addr, hcell j (List.getElem?_eq_some_iff.1 hj).1]
    exact hj

theorem wp_appB {o : Oper} {a : Act} {K : Act → World → Prop} {Q : Exit → Act → World → Prop} (s x : Operand) (t : TypeId)
    (ho : o.op = .call { callee := .builtin .append, args := #[s, x], argTypes := #[t, t] })
    (base : Nat) (e : TypeId) (z : Value) (bytes : Nat) (E : ElemB P t e z bytes) (v : Value) (xs : List Value) (hs : a.eval s = v) (hown : Own w base e v xs)
    (B : Nat) (u : Value) (news : List Value) (hx : a.eval x = u) (hsg : Seg w B u news) (h1 : ∀ x ∈ news, x.oneCell' = true)
    (hbd : (xs.length + news.length) * bytes ≤ 140737488355328) (hby1 : 1 ≤ bytes) (hbase : base ≤ w.heap.size)
    (h : ∀ v' w', Own w' base e v' (xs ++ news) → w.grownBy w' v.ownBlock → (v'.ownBlock = v.ownBlock ∨ v'.ownBlock = some w.heap.size) → K (a.put o.dst v') w') : o.wp P a w K Q := by
  obtain ⟨v', w', hrun, h2, h3, h4⟩ := run_appB (P := P) w base t o.type e z bytes E v xs hown B u news hsg h1 hbd hby1 hbase
  unfold Oper.wp execOp
  simp only [ho, resolve, invoke, builtin, Sem.run_bind, Sem.run_pure, Result.andThen_ok, List.map_toArray, List.map_cons, List.map_nil, hs, hx, hrun]
  exact h v' w' h2 h3 h4

theorem wpList_appB {ops : Array Oper} {rest : List Oper} {o : Oper} {a : Act} {Q : Exit → Act → World → Prop} (hgd : o.guard = none) (s x : Operand) (t : TypeId)
    (ho : o.op = .call { callee := .builtin .append, args := #[s, x], argTypes := #[t, t] })
    (base : Nat) (e : TypeId) (z : Value) (bytes : Nat) (E : ElemB P t e z bytes) (v : Value) (xs : List Value) (hs : a.eval s = v) (hown : Own w base e v xs)
    (B : Nat) (u : Value) (news : List Value) (hx : a.eval x = u) (hsg : Seg w B u news) (h1 : ∀ x ∈ news, x.oneCell' = true)
    (hbd : (xs.length + news.length) * bytes ≤ 140737488355328) (hby1 : 1 ≤ bytes) (hbase : base ≤ w.heap.size)
    (h : ∀ v' w', Own w' base e v' (xs ++ news) → w.grownBy w' v.ownBlock → (v'.ownBlock = v.ownBlock ∨ v'.ownBlock = some w.heap.size) → wpList P ops Q rest (a.put o.dst v') w') : wpList P ops Q (o :: rest) a w :=
  wpList_plain hgd fun _ hK => wp_appB w s x t ho base e z bytes E v xs hs hown B u news hx hsg h1 hbd hby1 hbase fun v' w' h2 h3 h4 => hK _ _ (h v' w' h2 h3 h4)

end
end Go.Par
/- V20 -/
namespace Go.Proofs.YtaalbcfpacpgfaaGreat
open Go.RowKit Go.Lib Go.Vfs Go.Par
set_option linter.unusedVariables false

theorem intB : ElemB Tryz.prog 67 3 (.int .i64 0) 8 := elemB_of Tryz.underlying67 (by kernel_rfl) (by decide) rfl

set_option maxHeartbeats 400000 in
theorem copyInts_big (v : Value) (zs : List Int) (B : Nat) (w : World) (hsg : Seg w B v (ints zs)) (hB : B ≤ w.heap.size) (hl : zs.length ≤ 17592186043904) :
    Calls Tryz.prog 26 #[v] w fun e w' => ∃ u, e = .returned u ∧ Par.Own w' w.heap.size 3 u (ints zs) ∧ Below w.heap.size w w' := by
  have hown := Par.Own.new w w.heap.size 3 #[] [] rfl (Nat.le_refl _) (by simp)
  have hb0 : Below w.heap.size w (w.alloc (.cells #[] 3)) := (Below.refl _ w).alloc (Nat.le_refl _) _
  have hsg1 := hsg.below (hb0.mono hB)
  clear hsg
  go_enter Tryz.func26, Tryz.ntmps26
  go_wp2_with (at_builtin; refine wpList_appB _ rfl _ _ _ rfl w.heap.size 3 _ 8 intB _ _ rfl hown _ v _ rfl hsg1 (one_ints _) ?c1 (by decide) ?c2 ?_)
  case c1 => rw [ints_length]; simp only [List.length_nil]; omega
  case c2 => first | omega | (simp; done) | (simp; omega)
  intro v3 w3 hown4 hg3 hat3
  go_wp2
  go_ret
  exact ⟨_, rfl, by simpa using hown4, below_app hb0 hown hg3 (by simp)⟩

/-- an Op in memory: its six cells. -/
structure OpR where
  what : Int
  n : Int
  name : ByteArray
  other : ByteArray
  pv : Value
  kv : Value
  parts : List (List UInt8)
  keeps : List Int
def OpR.cells (o : OpR) : List Value := [.int .i64 o.what, .int .i64 o.n, .string o.name, .string o.other, o.pv, o.kv]
/-- an Op whose slices lie below B. -/
structure OpAt (w : World) (B : Nat) (o : OpR) : Prop where
  rows : RowsAt (· < B) w o.pv o.parts
  ints : Seg w B o.kv (ints o.keeps)
  name : o.name.size ≤ 9223372036854775807
  other : o.other.size ≤ 9223372036854775807
  few : o.keeps.length ≤ 17592186043904
/-- a slice of Ops. -/
def SegO (w : World) (B : Nat) (v : Value) (os : List OpR) : Prop :=
  ∃ A c, v = .slice A os.length c ∧ os.length ≤ c ∧ c ≤ 9223372036854775807 ∧ (∀ o ∈ os, OpAt w B o) ∧
    ∀ i (h : i < os.length), ∃ b off, A = some ⟨b, off, none⟩ ∧ b < B ∧ ∀ j, j < 6 → w.cell? ⟨b, off + i * 6 + j, none⟩ = os[i].cells[j]?
theorem OpAt.below {w w' : World} {B : Nat} {o : OpR} (h : OpAt w B o) (hb : Below B w w') : OpAt w' B o :=
  ⟨h.rows.keep fun b hk => ⟨hk, hb.block b hk⟩, h.ints.below hb, h.name, h.other, h.few⟩
theorem SegO.below {w w' : World} {B : Nat} {v : Value} {os : List OpR} (h : SegO w B v os) (hb : Below B w w') : SegO w' B v os := by
  obtain ⟨A, c, h1, h2, h3, h4, h5⟩ := h
  refine ⟨A, c, h1, h2, h3, fun o ho => (h4 o ho).below hb, fun i hi => ?_⟩
  obtain ⟨b, off, e, hbb, hc⟩ := h5 i hi
  exact ⟨b, off, e, hbb, fun j hj => by rw [hb.cell (p := ⟨b, _, none⟩) hbb]; exact hc j hj⟩
end Go.Proofs.YtaalbcfpacpgfaaGreat
/- V21 -/
namespace Go.Proofs.YtaalbcfpacpgfaaGreat
open Go.RowKit Go.Lib Go.Vfs Go.Par
set_option linter.unusedVariables false

theorem SegO.take {w : World} {B : Nat} {A : Option Addr} {n c : Nat} {os : List OpR} (h : SegO w B (.slice A n c) os) (k : Nat) (hk : k ≤ os.length) : SegO w B (.slice A k c) (os.take k) := by
  obtain ⟨A', c', e, h2, h3, h4, h5⟩ := h
  injection e with e1 e2 e3
  subst e1 e3
  have hl : (os.take k).length = k := by simp; omega
  refine ⟨A, c, by rw [hl], by omega, h3, fun o ho => h4 o (List.mem_of_mem_take ho), fun i hi => ?_⟩
  rw [hl] at hi
  obtain ⟨b, off, e, hb, hc⟩ := h5 i (by omega)
  exact ⟨b, off, e, hb, fun j hj => by rw [hc j hj, List.getElem_take]⟩

end Go.Proofs.YtaalbcfpacpgfaaGreat
/- V22 -/
namespace Go.Proofs.YtaalbcfpacpgfaaGreat
open Go.RowKit Go.Lib Go.Vfs Go.Par
set_option linter.unusedVariables false

def sizeP (ls : List (List UInt8)) : Nat := (ls.map fun l => 1 + l.length).sum
def sizeO (os : List OpR) : Nat := (os.map fun o => sizeP o.parts).sum
theorem sizeO_succ (os : List OpR) (k : Nat) (h : k < os.length) : sizeO (os.take (k + 1)) = sizeO (os.take k) + sizeP os[k].parts := by
  unfold sizeO
  rw [List.take_succ_eq_append_getElem h, List.map_append, List.sum_append]
  simp
end Go.Proofs.YtaalbcfpacpgfaaGreat
/- V23 -/
namespace Go.Proofs.YtaalbcfpacpgfaaGreat
open Go.RowKit Go.Lib Go.Vfs Go.Par
set_option linter.unusedVariables false
set_option linter.unusedSimpArgs false

theorem rowE : Elem Tryz.prog 22 24 (.slice none 0 0) := elem_of (b := 24) Tryz.underlying22 (by kernel_rfl) (by decide) rfl

/-- what CopyRows has made when it has copied k rows. -/
structure Rowed (w : World) (ls : List (List UInt8)) (k : Nat) (v : Value) (us : List Value) (wr : World) : Prop where
  below : Below w.heap.size w wr
  len : us.length = k
  own : Par.Own wr w.heap.size 24 v us
  cells : ∀ i, i < k → SegS (fun b => w.heap.size ≤ b ∧ b < wr.heap.size ∧ v.ownBlock ≠ some b) wr (us.getD i (.bool false)) (byteCells (ls.getD i []))
theorem one_slices {S : Nat → Prop} {w : World} {l : List UInt8} {u : Value} (h : SegS S w u (byteCells l)) : u.oneCell' = true := by
  obtain ⟨A, c, rfl, -⟩ := h
  rfl

theorem Rowed.next {w : World} {ls : List (List UInt8)} {k : Nat} {v : Value} {us : List Value} {wr w2 w3 : World} (h : Rowed w ls k v us wr) {u : Value} (hb : Below wr.heap.size wr w2) (hu : Par.Own w2 wr.heap.size 5 u (byteCells (ls.getD k [])))
    {v' : Value} (o : Obj) (hown : Par.Own w3 w.heap.size 24 v' (us ++ [u])) (hg : (w2.alloc o).grownBy w3 v.ownBlock) (hat : v'.ownBlock = v.ownBlock ∨ v'.ownBlock = some (w2.heap.size + 1)) : Rowed w ls (k + 1) v' (us ++ [u]) w3 := by
  have hz := h.below.size
  have hz2 := hb.size
  have hv : ∀ g, v.ownBlock = some g → w.heap.size ≤ g ∧ g < wr.heap.size := fun g e => h.own.lt g e
  have hzg := hg.size
  have hal : (w2.alloc o).heap.size = w2.heap.size + 1 := by simp
  have hv' : ∀ b, b < wr.heap.size → v.ownBlock ≠ some b → v'.ownBlock ≠ some b := by
    intro b hlt hne e
    rcases hat with e1 | e1
    · exact hne (e1.symm.trans e)
    · rw [e1] at e; cases e; omega
  refine ⟨?_, by simp [h.len], hown, fun i hi => ?_⟩
  · exact ((h.below.trans (hb.mono hz)).alloc (by omega) o).grown hg (by omega) (fun g e => (hv g e).1)
  · by_cases hik : i < k
    · rw [show (us ++ [u]).getD i (.bool false) = us.getD i (.bool false) by simp [List.getD_eq_getElem?_getD, List.getElem?_append, h.len, hik]]
      refine (h.cells i hik).keep fun b ⟨b1, b2, b3⟩ => ⟨⟨b1, by omega, hv' b b2 b3⟩, ?_⟩
      rw [hg.block b (by omega) (fun e => b3 e.symm), Below.heap_alloc _ _ _ (by omega), hb.block b b2]
    · have : i = k := by omega
      subst this
      rw [show (us ++ [u]).getD i (.bool false) = u by simp [List.getD_eq_getElem?_getD, List.getElem?_append, h.len]]
      have hs := Own.outS hu (F := fun k => k < wr.heap.size) (fun k hk => hk)
      refine hs.keep fun b ⟨b1, b2⟩ => ⟨⟨by omega, by omega, fun e => ?_⟩, ?_⟩
      · rcases hat with e1 | e1
        · have := hv b (e1.symm.trans e); omega
        · rw [e1] at e; cases e; omega
      · rw [hg.block b (by omega) (fun e => by have := hv b e.symm; omega), Below.heap_alloc _ _ _ (by omega)]

end Go.Proofs.YtaalbcfpacpgfaaGreat
/- V24 -/
namespace Go.Proofs.YtaalbcfpacpgfaaGreat
open Go.RowKit Go.Lib Go.Vfs Go.Par
set_option linter.unusedVariables false
set_option linter.unusedSimpArgs false

theorem OpPost.pre {w w1 w' : World} {p : Nat} {F : Nat → Prop} {r : St × Int} {e : Ending} (hb : Below w.heap.size w w1) (h : OpPost w1 p F r e w') : OpPost w p F r e w' := by
  obtain ⟨F', h1, h2, h3, h4⟩ := h
  exact ⟨F', h1, h2, (Kept.of_below hb).trans' h3, fun k hk => (h4 k hk).imp id (fun h => Nat.le_trans hb.size h)⟩

theorem RowsAt.few {S : Nat → Prop} {w : World} {v : Value} {ls : List (List UInt8)} (h : RowsAt S w v ls) : ∃ A n c, v = .slice A n c := by
  obtain ⟨vs, _, ⟨A, c, h, _⟩, _⟩ := h
  exact ⟨A, _, c, h⟩
end Go.Proofs.YtaalbcfpacpgfaaGreat
/- V25 -/
namespace Go.Proofs.YtaalbcfpacpgfaaGreat
open Go.RowKit Go.Lib Go.Vfs Go.Par
set_option linter.unusedVariables false
set_option linter.unusedSimpArgs false

theorem box_below (w : World) (o : Obj) : Below w.heap.size w (w.alloc o) := (Below.refl _ w).alloc (Nat.le_refl _) _

end Go.Proofs.YtaalbcfpacpgfaaGreat
/- V26 -/
/- Plain: what a call does to the files, whatever the power; bounds; two file systems side by side. -/
namespace Go.Proofs.YtaalbcfpacpgfaaGreat
open Go.RowKit Go.Lib Go.Vfs Go.Par
set_option linter.unusedVariables false
set_option linter.unusedSimpArgs false

/-- few files, of short names, of few bytes. -/
structure Calm (fs : List File) (k d : Nat) : Prop where
  files : fs.length ≤ k
  names : ∀ f ∈ fs, nameB f.name = true
  data : ∀ f ∈ fs, f.data.length ≤ d
  safe : ∀ f ∈ fs, f.safe ≤ f.data.length
theorem Calm.nil : Calm [] 0 0 := ⟨by simp, by simp, by simp, by simp⟩
theorem Calm.mono {fs : List File} {k d k' d' : Nat} (h : Calm fs k d) (hk : k ≤ k') (hd : d ≤ d') : Calm fs k' d' := ⟨Nat.le_trans h.files hk, h.names, fun f hf => Nat.le_trans (h.data f hf) hd, h.safe⟩
theorem Calm.withL {fs : List File} {k d : Nat} (h : Calm fs k d) {f : File} (hn : nameB f.name = true) (hd : f.data.length ≤ d) (hs : f.safe ≤ f.data.length) : Calm (withL File.name f fs) (k + 1) d := by
  refine ⟨?_, fun g hg => ?_, fun g hg => ?_, fun g hg => ?_⟩
  · have := length_withL' (key := File.name) f fs; have := h.files; omega
  · rcases mem_withL.1 hg with rfl | ⟨hg, -⟩; exact hn; exact h.names g hg
  · rcases mem_withL.1 hg with rfl | ⟨hg, -⟩; exact hd; exact h.data g hg
  · rcases mem_withL.1 hg with rfl | ⟨hg, -⟩; exact hs; exact h.safe g hg
theorem Calm.dropL {fs : List File} {k d : Nat} (h : Calm fs k d) (s : List UInt8) : Calm (dropL File.name s fs) k d :=
  ⟨Nat.le_trans (List.length_filter_le _ _) h.files, fun g hg => h.names g (mem_dropL.1 hg).1, fun g hg => h.data g (mem_dropL.1 hg).1, fun g hg => h.safe g (mem_dropL.1 hg).1⟩
theorem Calm.app {fs : List File} {k d : Nat} (h : Calm fs k d) {s L : List UInt8} (hn : nameB s = true) : Calm (appF s L fs) (k + 1) (d + L.length) := by
  unfold appF
  refine (h.mono (Nat.le_refl _) (Nat.le_add_right d L.length)).withL ?_ ?_ ?_
  · split <;> exact hn
  · split
    · rename_i f hf; have := h.data f (findL_some hf).1; simp; omega
    · simp
  · split
    · rename_i f hf; have := h.safe f (findL_some hf).1; simp; omega
    · simp
theorem Calm.modest {st : St} {k d n : Nat} (h : Calm st.files k d) (hp : st.power ≤ 9223372036854775807) (hk : k < 2147483648) (hd : d + n ≤ 2147483648) : Modest st n :=
  ⟨fun f hf => by have := h.data f hf; omega, by omega, by have := h.files; omega, hp⟩

/-- two file systems side by side, new since B. -/
structure Two (B : Nat) (w0 w : World) (p : Nat) (st : St) (F : Nat → Prop) (q : Nat) (st' : St) (G : Nat → Prop) : Prop where
  one : Held B w0 w p st F
  two : Fsy w q st' G
  new : ∀ k, G k → B ≤ k
  apart : ∀ k, F k → ¬ G k
theorem Two.op {B : Nat} {w0 w w' : World} {p : Nat} {st st2 : St} {F F' : Nat → Prop} {q : Nat} {st' : St} {G : Nat → Prop} (h : Two B w0 w p st F q st' G) (hB : B ≤ w0.heap.size) (h1 : Fsy w' p st2 F') (h2 : Kept F w w') (h3 : Grows w F F') : Two B w0 w' p st2 F' q st' G :=
  ⟨h.one.op hB h1 h2 h3, h.two.keep fun k hk => h2.block k (h.two.lt k hk) (fun hf => h.apart k hf hk), h.new, fun k hf hg => by
    rcases h3 k hf with a | a
    · exact h.apart k a hg
    · have := h.two.lt k hg; omega⟩
theorem Two.go {B : Nat} {w0 w w' : World} {p : Nat} {st : St} {F : Nat → Prop} {q : Nat} {st' : St} {G : Nat → Prop} (h : Two B w0 w p st F q st' G) (hB : B ≤ w0.heap.size) (hb : Below w.heap.size w w') : Two B w0 w' p st F q st' G :=
  ⟨h.one.go hB hb, h.two.below hb, h.new, h.apart⟩
end Go.Proofs.YtaalbcfpacpgfaaGreat
/- V27 -/
namespace Go.Proofs.YtaalbcfpacpgfaaGreat
open Go.RowKit Go.Lib Go.Vfs Go.Par
set_option linter.unusedVariables false
set_option linter.unusedSimpArgs false

/-- the cells of an Op in a block. -/
def Six (w : World) (b off : Nat) (o : OpR) : Prop :=
  w.cell? ⟨b, off + 0, none⟩ = some (.int .i64 o.what) ∧ w.cell? ⟨b, off + 1, none⟩ = some (.int .i64 o.n) ∧ w.cell? ⟨b, off + 2, none⟩ = some (.string o.name) ∧ w.cell? ⟨b, off + 3, none⟩ = some (.string o.other) ∧ w.cell? ⟨b, off + 4, none⟩ = some o.pv ∧ w.cell? ⟨b, off + 5, none⟩ = some o.kv
theorem SegO.six {w : World} {B : Nat} {A : Option Addr} {n c : Nat} {os : List OpR} (h : SegO w B (.slice A n c) os) (k : Nat) (hk : k < os.length) : ∃ b off, A = some ⟨b, off, none⟩ ∧ b < B ∧ Six w b (off + k * 6) os[k] := by
  obtain ⟨A', c', e, h2, h3, h4, h5⟩ := h
  injection e with e1 e2 e3
  subst e1 e3
  obtain ⟨b, off, e, hb, hc⟩ := h5 k hk
  exact ⟨b, off, e, hb, hc 0 (by omega), hc 1 (by omega), hc 2 (by omega), hc 3 (by omega), hc 4 (by omega), hc 5 (by omega)⟩
theorem SegO.form {w : World} {B : Nat} {v : Value} {os : List OpR} (h : SegO w B v os) : ∃ A c, v = .slice A os.length c ∧ os.length ≤ c ∧ c ≤ 9223372036854775807 := by
  obtain ⟨A, c, h1, h2, h3, -⟩ := h
  exact ⟨A, c, h1, h2, h3⟩
theorem SegO.op {w : World} {B : Nat} {v : Value} {os : List OpR} (h : SegO w B v os) (k : Nat) (hk : k < os.length) : OpAt w B os[k] := by
  obtain ⟨A, c, h1, h2, h3, h4, -⟩ := h
  exact h4 _ (List.getElem_mem hk)
theorem Six.kept {w w' : World} {F : Nat → Prop} {b off : Nat} {o : OpR} (h : Six w b off o) (hk : Kept F w w') (hb : b < w.heap.size) (hn : ¬ F b) : Six w' b off o := by
  have e : ∀ i, w'.cell? ⟨b, i, none⟩ = w.cell? ⟨b, i, none⟩ := fun i => hk.cell (p := ⟨b, i, none⟩) hb hn
  unfold Six
  simp only [e]
  exact h

/-- where the loop of VfsPower stands. -/
structure PowI (W w : World) (os : List OpR) (power : Int) (k : Nat) (p : Nat) (F : Nat → Prop) (q : Nat) (G : Nat → Prop) (left : Int) (fs : List File) : Prop where
  two : Two W.heap.size W w p ⟨left, fs⟩ F q ⟨-1, fs⟩ G
  calm : Calm fs k (sizeO (os.take k))
  left0 : 0 ≤ left
  left1 : left ≤ 9223372036854775807

theorem SegO.same {w w' : World} {B : Nat} {v : Value} {os : List OpR} (h : SegO w B v os) (hk : ∀ b, b < B → w'.heap[b]? = w.heap[b]?) : SegO w' B v os := by
  obtain ⟨A, c, h1, h2, h3, h4, h5⟩ := h
  have hc : ∀ b o, b < B → w'.cell? ⟨b, o, none⟩ = w.cell? ⟨b, o, none⟩ := fun b o hb => World.cell?_of_block (a := ⟨b, o, none⟩) (hk b hb)
  refine ⟨A, c, h1, h2, h3, fun o ho => ?_, fun i hi => ?_⟩
  · have ho' := h4 o ho
    exact ⟨ho'.rows.keep fun b hb => ⟨hb, hk b hb⟩, ho'.ints.keep fun b o hb => hc b o hb, ho'.name, ho'.other, ho'.few⟩
  · obtain ⟨b, off, e, hbb, hcc⟩ := h5 i hi
    exact ⟨b, off, e, hbb, fun j hj => by rw [hc b _ hbb]; exact hcc j hj⟩
theorem SegO.back {w w' : World} {B : Nat} {v : Value} {os : List OpR} (h : SegO w' B v os) (hb : Below B w w') : SegO w B v os := h.same fun b hlt => (hb.block b hlt).symm

theorem PowI.same {W w w' : World} {os : List OpR} {power : Int} {k p : Nat} {F F' : Nat → Prop} {q : Nat} {G G' : Nat → Prop} {left : Int} {fs : List File} (h : PowI W w os power k p F q G left fs) (h2 : Two W.heap.size W w' p ⟨left, fs⟩ F' q ⟨-1, fs⟩ G') (hk : k < os.length) : PowI W w' os power (k + 1) p F' q G' left fs :=
  ⟨h2, h.calm.mono (by omega) (by rw [sizeO_succ os k hk]; omega), h.left0, h.left1⟩
end Go.Proofs.YtaalbcfpacpgfaaGreat


