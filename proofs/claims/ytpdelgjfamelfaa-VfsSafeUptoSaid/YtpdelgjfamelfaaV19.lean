import Derived.Test.YtpdelgjfamelfaaV18
import Derived.HandedShaped
namespace Go.Proofs.Ytpdelgjfamelfaa
open Go.RowKit Go.Lib Go.Vfs Go.Par
set_option linter.unusedVariables false

theorem Own.formB {w : World} {base : Nat} {e : TypeId} {v : Value} {l : List UInt8} (h : Par.Own w base e v (byteCells l)) : ∃ A c, v = .slice A l.length c := by
  obtain ⟨A, c, e⟩ := h.form
  exact ⟨A, c, by rw [e, byteCells_length]⟩
/-- the bytes of a slice of one's own are written, one by one; nothing else is. -/
def Flip (w : World) (A : Option Addr) (n : Nat) (wr : World) : Prop :=
  Kept (fun k => A.map (·.block) = some k) w wr ∧ wr.heap.size = w.heap.size ∧ ∀ j, j < n → ∃ g m, A = some ⟨g, 0, none⟩ ∧ wr.cell? ⟨g, j, none⟩ = some (.int .u8 m) ∧ wr.frozen? ⟨g, j, none⟩ = false
theorem Flip.start {w : World} {base : Nat} {A : Option Addr} {c : Nat} {l : List UInt8} (h : Par.Own w base 5 (.slice A l.length c) (byteCells l)) : Flip w A l.length w := by
  refine ⟨Kept.refl _ _, rfl, fun j hj => ?_⟩
  obtain ⟨_, ⟨e, h0⟩ | ⟨g, cap, cur, e, hb, hg, h1, h2, h3, h4⟩⟩ := h
  · rw [byteCells_length] at h0; omega
  · rw [byteCells_length] at e h4 h1
    injection e with e1 e2 e3
    subst e1
    have hc : cur.toList[j]? = (byteCells l)[j]? := by
      rw [← h4, List.getElem?_take_of_lt]
      omega
    refine ⟨g, (l[j].toNat : Int), rfl, ?_, ?_⟩
    · rw [Go.Joins.cell_of_block hg]
      rw [← Array.getElem?_toList, hc]
      simp [byteCells, hj]
    · exact Go.Joins.unfrozen_of_block hg j
theorem Flip.step {w wr : World} {g n : Nat} (h : Flip w (some ⟨g, 0, none⟩) n wr) (k : Nat) (x : Int) : Flip w (some ⟨g, 0, none⟩) n (wr.setCell ⟨g, k, none⟩ (.int .u8 x)) := by
  obtain ⟨h1, h2, h3⟩ := h
  refine ⟨h1.setCell (p := ⟨g, k, none⟩) (.inl rfl) _, by rw [← h2]; simp, fun j hj => ?_⟩
  obtain ⟨g', m, e, hc, hf⟩ := h3 j hj
  cases e
  obtain ⟨m', hm⟩ := someInt_setCell ⟨m, hc⟩ ⟨g, k, none⟩ x
  exact ⟨g, m', rfl, hm, by rw [World.frozen?_setCell]; exact hf⟩
theorem Flip.held {B : Nat} {w0 w wr : World} {p : Nat} {st : St} {F : Nat → Prop} {A : Option Addr} {n : Nat} (h : Flip w A n wr) (H : Held B w0 w p st F) (hB : B ≤ w0.heap.size) (hg : ∀ g, A.map (·.block) = some g → ¬ F g ∧ B ≤ g) : Held B w0 wr p st F :=
  ⟨H.fs.keep fun k hk => h.1.block k (H.fs.lt k hk) (fun e => (hg k e).1 hk), H.new, H.below.trans (h.1.below (H.size hB) fun k hk => (hg k hk).2)⟩
theorem Flip.drewN {w wr : World} {A : Option Addr} {n : Nat} (h : Flip w A n wr) (m : Nat) : Flip w A n (wr.drewN m) := ⟨h.1.drewN m, h.2.1, h.2.2⟩

theorem Held.go' {B : Nat} {w0 w w' : World} {p : Nat} {st : St} {F : Nat → Prop} (h : Held B w0 w p st F) (n : Nat) (hF : ∀ k, F k → k < n) (hn : B ≤ n) (hb : Below n w w') : Held B w0 w' p st F :=
  ⟨h.fs.keep fun k hk => hb.block k (hF k hk), h.new, h.below.trans (hb.mono hn)⟩
theorem own_grown {w w' : World} {base : Nat} {e : TypeId} {v : Value} {xs : List Value} (h : Par.Own w base e v xs) (hb : base ≤ w.heap.size) (hg : w.grownBy w' v.ownBlock) : Below base w w' :=
  ((Kept.refl (fun k => base ≤ k) w).grown hg (fun k e => .inl (h.lt k e).1)).below hb (fun _ h => h)
theorem slice_front (A : Option Addr) (n c N : Nat) (w : World) (h : N ≤ c) : (Instr.slice 22 (.slice A n c) none (some (.int .i64 (N : Int))) none).run Try.prog w = .ok (.slice A N c) w := by
  have ht' : Try.prog.underlying 22 = some (.slice (Try.prog.elem 22)) := by simp [Program.elem, Try.underlying22]
  have he : Try.prog.elem 22 = 5 := by simp [Program.elem, Try.underlying22]
  rw [run_slice_h w 22 _ _ _ ht' .i64 _ (by omega) (by omega), he, Try.sizeOf5]
  simp only [Result.andThen, sliced]
  cases A <;> simp [Addr.add]
theorem seg_front {w : World} {B : Nat} {A : Option Addr} {c : Nat} {l r : List UInt8} (h : Seg w B (.slice A (l ++ r).length c) (byteCells (l ++ r))) : l.length ≤ c ∧ Seg w B (.slice A l.length c) (byteCells l) := by
  obtain ⟨A', c', e, h1, h2, h3⟩ := h
  rw [byteCells_length] at e h1 h3
  injection e with e1 e2 e3
  subst e1 e3
  have h4 : l.length ≤ c := by simp at h1; omega
  refine ⟨h4, A, c, by rw [byteCells_length], by rw [byteCells_length]; exact h4, h2, fun hp => ?_⟩
  rw [byteCells_length] at hp
  obtain ⟨b, off, e, hb, hc⟩ := h3 (by simp; omega)
  refine ⟨b, off, e, hb, fun i hi => ?_⟩
  rw [byteCells_length] at hi
  rw [hc i (by simp; omega), byteCells_append, List.getElem?_append_left (by rw [byteCells_length]; exact hi)]
theorem crash_x (l : List UInt8) (hl : l.length ≤ 5000) : stCrash ⟨-1, [⟨[120], l, 0⟩]⟩ [1073741824] (-1) = ⟨-1, [⟨[120], l, l.length⟩]⟩ := by
  have h1 : cutK [1073741824] 0 = 1073741824 := rfl
  have h2 : cutN 1073741824 ⟨[120], l, 0⟩ = l.length := by
    unfold cutN
    have : (1073741824 : Int).toNat = 1073741824 := rfl
    simp only [this]
    omega
  unfold stCrash
  simp only [crashL, crashF, h1, h2, List.take_length]
set_option maxRecDepth 20000 in
set_option maxHeartbeats 2000000 in
theorem vfsMemory_walk (va : Value) (a : List UInt8) (ha : a.length ≤ 140737488351232) (vb : Value) (b : List UInt8) (hb : b.length ≤ 140737488351232) (W : World)
    (ga : Seg W W.heap.size va (byteCells a)) (gb : Seg W W.heap.size vb (byteCells b)) :
    Calls Try.prog 3 #[va, vb] W fun e W' => e = .returned (.bool true) ∧ Below W.heap.size W W' := by
  obtain ⟨A, ca, rfl, -⟩ := ga.open_bytes
  obtain ⟨A', ca', rfl, -⟩ := gb.open_bytes
  have GX := Lib.hid ga; have GY := Lib.hid gb; clear ga gb
  go_enter Try.func3, Try.ntmps3
  go_wp2_with fail
  refine (alive_any W).mono ?_
  rintro e w1 ⟨rfl, hb1⟩
  have HB1 := Lib.hid hb1; clear hb1
  go_wp2_with fail
  refine (new_fs (-1) w1).mono ?_
  rintro e w2 ⟨p, F2, rfl, hfs, hF, hb2⟩
  have hs1 := HB1.out.size
  have H2 : Hid (Held W.heap.size W w2 p ⟨-1, []⟩ F2) := Lib.hid ⟨hfs, fun k hk => Nat.le_trans hs1 (hF k hk).1, HB1.out.trans (hb2.mono hs1)⟩
  clear hfs hF hb2 HB1 hs1
  by_cases hlen : (a.length : Int) + b.length > 5000
  · go_wp2
    go_ret
    exact ⟨rfl, H2.out.below⟩
  have hle : a.length + b.length ≤ 5000 := by omega
  have HLE := Lib.hid hle; clear hle
  have hB : W.heap.size ≤ W.heap.size := Nat.le_refl _
  go_wp2_with fail
  have hs2 := H2.out.size hB
  refine (copyBytes_any _ a W.heap.size w2 (GX.out.below H2.out.below) hs2 (by have := HLE.out; omega)).mono ?_
  rintro e w3 ⟨u, rfl, hu, hb3⟩
  have H3 : Hid (Held W.heap.size W w3 p ⟨-1, []⟩ F2) := Lib.hid (H2.out.go hB hb3)
  obtain ⟨A3, c3, rfl⟩ := Own.formB hu
  have U3 := Lib.hid hu
  have S2 := Lib.hid (H2.out.size hB)
  have L3 : Hid (∀ k, F2 k → k < w2.heap.size) := Lib.hid (fun k hk => H2.out.fs.lt k hk)
  clear hu hb3 H2 hs2
  go_wp2_with fail
  have hs3 := H3.out.size hB
  refine (copyBytes_any _ b W.heap.size w3 (GY.out.below H3.out.below) hs3 (by have := HLE.out; omega)).mono ?_
  rintro e w4 ⟨u', rfl, hu', hb4⟩
  have H4 : Hid (Held W.heap.size W w4 p ⟨-1, []⟩ F2) := Lib.hid (H3.out.go hB hb4)
  obtain ⟨A4, c4, rfl⟩ := Own.formB hu'
  have U4 := Lib.hid (U3.out.below hb4)
  have hr4 := RowsAt.new2 (fun k hk => H4.out.fs.lt k hk) (Own.outS U4.out L3.out) (Own.outS hu' (fun k hk => H3.out.fs.lt k hk)) w4.heap.size rfl
  have HR4 := Lib.hid hr4
  have H4' := Lib.hid (H4.out.go hB ((Below.refl _ w4).alloc (Nat.le_refl _) (.cells #[.slice A3 a.length c3, .slice A4 b.length c4] 22)))
  have U4' := Lib.hid (U4.out.alloc (.cells #[.slice A3 a.length c3, .slice A4 b.length c4] 22))
  clear hu' hb4 hr4 H4 U4 U3 H3 hs3
  go_wp2_with fail
  refine (H4'.out.append hB (by decide) HR4.out ⟨by simp, by have := HLE.out; simp; omega, by simp, by decide⟩).mono ?_
  rintro e w5 ⟨F5, rfl, H5, k5, g5⟩
  have e5 : stAppend ⟨-1, []⟩ [120] [a, b].flatten = (⟨-1, [⟨[120], a ++ b, 0⟩]⟩, 0) := by simp; rfl
  replace e5 : stAppend ⟨-1, []⟩ (⟨#[120]⟩ : ByteArray).data.toList [a, b].flatten = (⟨-1, [⟨[120], a ++ b, 0⟩]⟩, 0) := e5
  rw [e5] at H5 ⊢
  have hg5 : ∀ g, A3.map (·.block) = some g → ¬ F2 g ∧ ¬ F5 g ∧ W.heap.size ≤ g ∧ g < w5.heap.size := fun g hg => by
    have h1 := U4'.out.lt g (by rcases A3 with _ | ⟨⟩ <;> simp [Value.ownBlock] at hg ⊢ <;> exact hg)
    have h2 := H4'.out.new
    have h3 := k5.size
    have h4 : W.heap.size ≤ w2.heap.size := S2.out
    refine ⟨fun hf => by have := L3.out g hf; omega, fun hf => by rcases g5 g hf with h | h; have := L3.out g h; omega; omega, by omega, by omega⟩
  have U5 : Par.Own w5 w2.heap.size 5 (.slice A3 a.length c3) (byteCells a) := ownsRow_block U4'.out fun g hg => by
    have hg' : A3.map (·.block) = some g := by rcases A3 with _ | ⟨⟩ <;> simp [Value.ownBlock] at hg ⊢ <;> exact hg
    exact k5.block g (U4'.out.lt g hg).2 (hg5 g hg').1
  have FL := Flip.start U5
  have H5 := Lib.hid H5; have HG := Lib.hid hg5
  clear e5 k5 g5 H4' U4' HR4 L3 U5 hg5
  go_wp2
  go_loopw [7] (fun i wr => ∃ k : Nat, k ≤ a.length ∧ i = .int .i64 k ∧ Flip w5 A3 a.length wr) (fun i _ => a.length - (intOf i).toNat)
  case atStart => exact ⟨0, by omega, rfl, FL⟩
  case round =>
    obtain ⟨k, hk, rfl, hfl⟩ := hrel
    by_cases hlt : k < a.length
    · obtain ⟨g, m, rfl, hc, hz⟩ := hfl.2.2 k hlt
      have HFL := Lib.hid hfl; clear hfl FL
      go_wp2
      go_roundw
      case rel => exact ⟨k + 1, by omega, by go_num, HFL.out.step k _⟩
      case measure => simp [intOf]; omega
    · have H6 := Lib.hid (hfl.held H5.out hB fun g hg => ⟨(HG.out g hg).2.1, (HG.out g hg).2.2.1⟩)
      clear FL hfl H5 HG S2
      go_wp2_with fail
      refine (copyBytes_any _ a W.heap.size wr (GX.out.below H6.out.below) (H6.out.size hB) (by have := HLE.out; omega)).mono ?_
      rintro e w7 ⟨u7, rfl, hu7, hb7⟩
      have H7 := Lib.hid (H6.out.go hB hb7)
      obtain ⟨A7, c7, rfl⟩ := Own.formB hu7
      have hsg7 := GY.out.below H7.out.below
      have hs7 := hb7.size
      have H6s := Lib.hid (H6.out.size hB)
      have HF6 := Lib.hid (fun k hk => H6.out.fs.lt k hk)
      clear hb7 H6
      have hlab := HLE.out
      go_wp2_with (first | (at_builtin; refine wpList_app _ rfl _ _ _ rfl wr.heap.size 5 _ byteE _ _ rfl hu7 _ _ _ rfl hsg7 (one_bytes _) ?c1 ?c2 ?_) | fail)
      case c1 => rw [byteCells_length, byteCells_length]; omega
      case c2 => omega
      intro v8 w8 hown8 hg8 hat8
      rw [← byteCells_append] at hown8
      have hb8 := own_grown hu7 hs7 hg8
      obtain ⟨ab, hab⟩ : ∃ ab, ab = a ++ b := ⟨_, rfl⟩
      rw [← hab] at hown8
      have HLL : Hid (ab.length ≤ 5000) := Lib.hid (by rw [hab]; simp; omega)
      have H8 : Hid (Held W.heap.size W w8 p ⟨-1, [⟨[120], ab, 0⟩]⟩ F5) := Lib.hid (by rw [hab]; exact H7.out.go' wr.heap.size HF6.out H6s.out hb8)
      clear hab
      have hs8 : wr.heap.size ≤ w8.heap.size := Nat.le_trans hs7 hb8.size
      obtain ⟨A8, c8, rfl⟩ := Own.formB hown8
      have U8 := Lib.hid hown8
      clear hu7 hsg7 hg8 hat8 hb8 H7 hs7
      go_wp2_with fail
      have H8' := H8.out.go hB ((Below.refl _ w8).alloc (Nat.le_refl _) (.cells #[.int .i64 1073741824] 3))
      have hk8 := (SegS.new (w := w8) (F := fun _ => False) (fun k hk => hk.elim) (ints [1073741824]) #[.int .i64 1073741824] rfl 1 rfl (by decide) 3 (0, 0) w8.heap.size rfl).out
      refine (crash_any _ p _ _ H8'.fs (by simp) (by simp) (by have := HLL.out; simp; omega) _ [1073741824] hk8 (-1)).mono ?_
      rintro e w9 ⟨p', F9, rfl, hfs9, hF9, hb9⟩
      rw [crash_x _ HLL.out] at hfs9
      have h8s := H8'.size hB
      have HG9 : Hid (Held W.heap.size W w9 p' ⟨-1, [⟨[120], ab, ab.length⟩]⟩ F9) := Lib.hid ⟨hfs9, fun k hk => Nat.le_trans h8s (hF9 k hk).1, H8'.below.trans (hb9.mono h8s)⟩
      have HF9 := Lib.hid (H8'.go hB hb9)
      have U9 := Lib.hid ((U8.out.alloc (.cells #[.int .i64 1073741824] 3)).below hb9)
      have D9 : Hid (∀ k, F9 k → w8.heap.size < k) := Lib.hid fun k hk => by have := (hF9 k hk).1; simp at this; omega
      have L5 : Hid (∀ k, F5 k → k < wr.heap.size) := HF6
      have S9 : Hid (wr.heap.size ≤ w9.heap.size) := Lib.hid (by have := hb9.size; simp at this; omega)
      have B9 := Lib.hid (fun k hk => (U8.out.lt k hk).2)
      have S98 : Hid (w8.heap.size ≤ w9.heap.size) := Lib.hid (by have := hb9.size; simp at this; omega)
      clear hk8 hfs9 hF9 hb9 h8s H8' H8 U8 hown8
      go_wp2_with fail
      refine (read_any w9 p _ _ HF9.out.fs _ (by decide) (by have := HLL.out; simp; omega)).mono ?_
      rintro e w10 ⟨hb10, hr⟩
      replace hr : ∃ u, e = .returned (.tuple #[u, .int .i64 0]) ∧ Par.Own w10 w9.heap.size 5 u (byteCells ab) := hr
      obtain ⟨u10, rfl, hu10⟩ := hr
      obtain ⟨A10, c10, rfl⟩ := Own.formB hu10
      have HG10 := Lib.hid (HG9.out.go hB hb10)
      have HF10 := Lib.hid (HF9.out.go hB hb10)
      have U10 := Lib.hid (U9.out.below hb10)
      have FL := Flip.start hu10
      have hg10 : ∀ g, A10.map (·.block) = some g → w9.heap.size ≤ g := fun g hg => (hu10.lt g (by rcases A10 with _ | ⟨⟩ <;> simp [Value.ownBlock] at hg ⊢ <;> exact hg)).1
      have LF := Lib.hid (fun k hk => HF9.out.fs.lt k hk); have LG := Lib.hid (fun k hk => HG9.out.fs.lt k hk)
      have HGG := Lib.hid hg10
      have T9 := Lib.hid (HF9.out.size hB)
      clear hb10 hu10 HG9 HF9 hg10
      go_wp2
      go_loopw [12] (fun i wr => ∃ k : Nat, k ≤ ab.length ∧ i = .int .i64 k ∧ Flip w10 A10 ab.length wr) (fun i _ => ab.length - (intOf i).toNat)
      case atStart => exact ⟨0, by omega, rfl, FL⟩
      case round =>
        obtain ⟨k, hk, rfl, hfl⟩ := hrel
        by_cases hlt : k < ab.length
        · obtain ⟨g, m, rfl, hc, hz⟩ := hfl.2.2 k hlt
          have HFL := Lib.hid hfl; clear hfl FL
          have hll := HLL.out
          go_wp2
          go_roundw
          case rel => exact ⟨k + 1, by omega, by go_num, HFL.out.step k _⟩
          case measure => simp [intOf]; omega
        · have HF11 := Lib.hid (hfl.held HF10.out hB fun g hg => ⟨fun h => by have := LF.out g h; have := HGG.out g hg; omega, by have := HGG.out g hg; have := T9.out; omega⟩)
          have HG11 := Lib.hid (hfl.held HG10.out hB fun g hg => ⟨fun h => by have := LG.out g h; have := HGG.out g hg; omega, by have := HGG.out g hg; have := T9.out; omega⟩)
          have U11 : Hid (Par.Own wr _ 5 (.slice A8 ab.length c8) (byteCells ab)) := Lib.hid (ownsRow_block U10.out fun g hg => hfl.1.block g (U10.out.lt g hg).2 (fun h => by have := HGG.out g h; have := B9.out g hg; have := S98.out; omega))
          clear hfl FL HF10 HG10 U10
          have k11 := Go.Joins.run_convert_bytes_const_at (P := Try.prog) wr 22 5 #[.int .u8 109, .int .u8 111, .int .u8 114, .int .u8 101] 4 4 _ rfl Try.underlying22 Try.underlying5
          simp only [List.size_toArray, List.length_cons, List.length_nil, Nat.reduceAdd] at k11
          go_wp2_with fail
          have hr12 := RowsAt.new1 (w := wr.alloc (.cells #[.int .u8 109, .int .u8 111, .int .u8 114, .int .u8 101] 5 (4, 5))) (F := F9) (fun k hk => by have := HG11.out.fs.lt k hk; simp; omega) (SegS.new (fun k hk => HG11.out.fs.lt k hk) (byteCells [109, 111, 114, 101]) _ rfl 4 rfl (by decide) _ _ wr.heap.size rfl) (wr.heap.size + 1) (by simp)
          have hb12 : Below wr.heap.size wr ((wr.alloc (.cells #[.int .u8 109, .int .u8 111, .int .u8 114, .int .u8 101] 5 (4, 5))).alloc (.cells #[.slice (some ⟨wr.heap.size, 0, none⟩) 4 4] 22)) := ((Below.refl _ wr).alloc (Nat.le_refl _) _).alloc (by simp) _
          have HG12 := HG11.out.go hB hb12
          have HF12 := HF11.out.go hB hb12
          have U12 := U11.out.below hb12
          refine (HG12.append hB (by decide) hr12 ⟨by have := HLL.out; simp; omega, by decide, by simp, by simp⟩).mono ?_
          rintro e w13 ⟨F13, he, HG13, k13, g13⟩
          have e13 : stAppend ⟨-1, [⟨[120], ab, ab.length⟩]⟩ (⟨#[120]⟩ : ByteArray).data.toList [[109, 111, 114, 101]].flatten = (⟨-1, [⟨[120], ab ++ [109, 111, 114, 101], ab.length⟩]⟩, 0) := by rfl
          rw [e13] at he HG13
          subst he
          have HF13 : Hid (Held W.heap.size W w13 p ⟨-1, [⟨[120], ab, 0⟩]⟩ F5) := Lib.hid ⟨HF12.fs.keep fun k hk => k13.block k (HF12.fs.lt k hk) (fun h => by have := D9.out k h; have := L5.out k hk; omega), HF12.new, HF12.below.trans (k13.below (HF12.size hB) HG12.new)⟩
          have U13 := Lib.hid (ownsRow_block U12 fun g hg => k13.block g (U12.lt g hg).2 (fun h => by have := D9.out g h; have := B9.out g hg; omega))
          have HG13 := Lib.hid HG13
          clear hr12 hb12 HG12 HF12 U12 k13 g13 e13 HG11 HF11 U11 k11
          go_wp2_with fail
          refine (read_any w13 p _ _ HF13.out.fs _ (by decide) (by have := HLL.out; simp; omega)).mono ?_
          rintro e w14 ⟨hb14, hr⟩
          replace hr : ∃ u, e = .returned (.tuple #[u, .int .i64 0]) ∧ Par.Own w14 w13.heap.size 5 u (byteCells ab) := hr
          obtain ⟨u14, rfl, hu14⟩ := hr
          obtain ⟨A14, c14, rfl⟩ := Own.formB hu14
          have HG14 := Lib.hid (HG13.out.go hB hb14)
          have U14 := Lib.hid (Own.below U13.out hb14)
          have Y14 := Lib.hid hu14
          clear hb14 hu14 HG13 U13 HF13
          go_wp2_with fail
          refine (read_any w14 p' _ _ HG14.out.fs _ (by decide) (by have := HLL.out; simp; omega)).mono ?_
          rintro e w15 ⟨hb15, hr⟩
          replace hr : ∃ u, e = .returned (.tuple #[u, .int .i64 0]) ∧ Par.Own w15 w14.heap.size 5 u (byteCells (ab ++ [109, 111, 114, 101])) := hr
          obtain ⟨u15, rfl, hu15⟩ := hr
          obtain ⟨A15, c15, rfl⟩ := Own.formB hu15
          have HG15 := Lib.hid (HG14.out.go hB hb15)
          have U15 := Lib.hid (Own.seg (Own.below U14.out hb15))
          have Y15 := Lib.hid (Own.seg (Own.below Y14.out hb15))
          obtain ⟨hc15, hz15⟩ := seg_front (Own.seg hu15)
          have Z15 := Lib.hid hz15
          clear hb15 HG14 U14 Y14 hz15 hu15
          go_wp2_with fail
          refine (sameBytes_any _ _ ab ab _ w15 Y15.out U15.out).mono ?_
          rintro e w16 ⟨rfl, n16, rfl⟩
          rw [decide_eq_true rfl]
          have hsl := slice_front A15 (ab ++ [109, 111, 114, 101]).length c15 ab.length (w15.drewN n16) hc15
          have hll := HLL.out
          simp only [List.length_append, List.length_cons, List.length_nil, Nat.reduceAdd] at hsl ⊢
          go_wp2_with fail
          refine (sameBytes_any _ _ ab ab w15.heap.size (w15.drewN n16) Z15.out U15.out).mono ?_
          rintro e w17 ⟨rfl, n17, rfl⟩
          rw [decide_eq_true rfl]
          go_wp2
          go_ret
          exact ⟨rfl, below_drewN HG15.out.below _⟩
end Go.Proofs.Ytpdelgjfamelfaa
