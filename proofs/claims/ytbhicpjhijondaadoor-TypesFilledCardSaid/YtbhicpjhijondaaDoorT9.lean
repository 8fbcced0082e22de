/- The iterator over a type's parts. -/
import Derived.Test.YtbhicpjhijondaaDoorT8
namespace Go.Typ
mutual
/-- a type and all that stands in it, from the left. -/
def Ty.list : Ty → List Ty
  | .mk k n s ts => .mk k n s ts :: listL ts
def listL : List Ty → List Ty
  | [] => []
  | t :: ts => t.list ++ listL ts
end
theorem Ty.list_eq (T : Ty) : T.list = T :: listL T.args := by cases T; rw [Ty.list]; rfl
theorem listL_append : ∀ (a b : List Ty), listL (a ++ b) = listL a ++ listL b
  | [], b => by simp [listL]
  | t :: a, b => by simp [listL, listL_append a b]
theorem listL_take {ts : List Ty} {k : Nat} (h : k < ts.length) : listL (ts.take (k + 1)) = listL (ts.take k) ++ ts[k].list := by
  rw [List.take_succ_eq_append_getElem h, listL_append]
  simp [listL]
theorem listL_prefix {ts : List Ty} {k : Nat} (h : k < ts.length) : listL (ts.take k) ++ ts[k].list <+: listL ts := by
  rw [← listL_take h]
  refine ⟨listL (ts.drop (k + 1)), ?_⟩
  rw [← listL_append, List.take_append_drop]
mutual
theorem Ty.list_length : ∀ T : Ty, T.list.length = T.parts
  | .mk k n s ts => by rw [Ty.list, Ty.parts, List.length_cons, listL_length ts]; omega
theorem listL_length : ∀ ts : List Ty, (listL ts).length = partsL ts
  | [] => rfl
  | t :: ts => by rw [listL, partsL, List.length_append, Ty.list_length t, listL_length ts]
end
end Go.Typ
namespace Go.Proofs.YtbhicpjhijondaaDoor
open Go.RowKit Go.Lib Go.Vfs Go.Par Go.Typ Go.Shelf
set_option linter.unusedVariables false
set_option linter.unusedSimpArgs false
attribute [local go_sem] Oper.semAt_some

theorem yield_any {P : Program} {m : Nat} (m' : Nat) {l : Nat} {args : Array Value} {W : World} {R : Ending → World → Prop} (h : YieldAt Fence.wide m P l args W R) : YieldAt Fence.wide m' P l args W R := by
  obtain ⟨fn, tmps, assign, body, hy, hR⟩ := h
  exact ⟨fn, tmps, assign, body, hy, hR.1, fun c cs _ => hR.2 c cs (fun d h => by cases h)⟩

/-- what lies below n₀, and all types, lie as they lay. -/
structure TyK (n₀ : Nat) (W W' : World) : Prop where
  below : Below n₀ W W'
  le : W.heap.size ≤ W'.heap.size
  same : ∀ (k : Nat) (cs : Array Value) (fz : Nat × Nat), W.heap[k]? = some (.cells cs 24 fz) → W'.heap[k]? = W.heap[k]?
theorem TyK.t {n₀ : Nat} {A B C : World} (h : TyK n₀ A B) (k : TyK n₀ B C) : TyK n₀ A C :=
  ⟨h.below.trans k.below, Nat.le_trans h.le k.le, fun i cs fz hi => (k.same i cs fz ((h.same i cs fz hi).trans hi)).trans (h.same i cs fz hi)⟩
theorem TyK.of {n₀ : Nat} {W W' : World} (hn : n₀ ≤ W.heap.size) (h : Below W.heap.size W W') : TyK n₀ W W' := ⟨h.mono hn, h.size, fun k cs fz hk => h.block k (lt_blk hk)⟩
theorem TyK.refl (n₀ : Nat) (W : World) : TyK n₀ W W := ⟨Below.refl _ _, Nat.le_refl _, fun _ _ _ _ => rfl⟩

set_option maxRecDepth 100000 in
set_option maxHeartbeats 2000000 in
theorem walk_in (l n₀ N : Nat) (J Jx : List (Value × Ty) → World → Prop) (hJ : AbB J) (hn : ∀ pre W, J pre W → n₀ ≤ W.heap.size)
    (hY : ∀ (m : Nat) pre x W1, J pre W1 → TyAt (· < n₀) W1 x.1 x.2 → pre.length < N → YieldAt Fence.wide m Tryd.prog l #[x.1] W1 fun e W' => (e = .returned (.bool true) ∧ J (pre ++ [x]) W' ∧ TyK n₀ W1 W') ∨ (e = .returned (.bool false) ∧ Jx (pre ++ [x]) W')) (T : Ty) :
    ∀ (n : Nat) (v : Value) (pre : List (Value × Ty)) (W : World), TyAt (· < n₀) W v T → J pre W → pre.length + T.parts ≤ N →
      CallsIn Fence.wide n Tryd.prog 92 #[v, .func (.yield l) #[] #[]] W fun e W' =>
        (e = .returned (.bool true) ∧ (∃ q, q.map Prod.snd = T.list ∧ J (pre ++ q) W') ∧ TyK n₀ W W') ∨ (e = .returned (.bool false) ∧ ∃ q, q.map Prod.snd <+: T.list ∧ Jx (pre ++ q) W') := by
  induction T using Ty.ind with
  | h T ih =>
    intro n v pre W hT hj hN
    obtain ⟨A, c, rfl, hc, hm, hnm⟩ := hT.form
    have hla : T.args.length ≤ 9223372036854775807 := by simp only [maxLen] at hm; omega
    have IH := Lib.hid ih; have HY := Lib.hid hY; have HJA := Lib.hid hJ; have HNN := Lib.hid hn; have HT := Lib.hid hT
    obtain ⟨W1, hW1⟩ : ∃ W1, W1 = W.alloc (.cells #[.int .i64 T.kind, .int .i64 T.num, .string T.name, .slice A T.args.length c] 24) := ⟨_, rfl⟩
    have hb1 : Below W.heap.size W W1 := by rw [hW1]; exact (Below.refl _ _).alloc (Nat.le_refl _) _
    have hj1 : J pre W1 := hJ _ _ _ hj hb1
    have h0 := hn _ _ hj
    have hT1 : TyAt (· < n₀) W1 (tyV T.kind T.num T.name A T.args.length c) T := hT.keep fun g hg => ⟨hg, hb1.block g (by omega)⟩
    obtain ⟨fn, tmps, assign, body, hy, hR⟩ := hY (n - 1) pre (tyV T.kind T.num T.name A T.args.length c, T) W1 hj1 hT1 (by have := T.parts_pos; omega)
    have HBX : Hid (W1.heap[W.heap.size]? = some (.cells #[.int .i64 T.kind, .int .i64 T.num, .string T.name, .slice A T.args.length c] 24 (0, 0))) := Lib.hid (by rw [hW1]; exact heap_alloc_new _ _)
    have HB1 := Lib.hid (TyK.of h0 hb1)
    have HN := Lib.hid hN
    obtain ⟨bx, hbx⟩ : ∃ bx, bx = W.heap.size := ⟨_, rfl⟩
    rw [← hbx] at HBX
    unfold tyV
    dsimp only [tyV] at hy
    clear ih hY hJ hn hT hj hj1 hT1 hb1 hc hm hnm hN
    refine callsIn_of_wp Tryd.func92 rfl trivial ?_ rfl
    simp only [Tryd.ntmps92, List.size_toArray, List.length_cons, List.length_nil, Nat.reduceAdd, Nat.reduceSub, Array.replicate_succ, Array.replicate_zero, List.push_toArray, List.append_toArray, List.nil_append, List.cons_append]
    gi_wp2
    rw [← hW1, ← hbx]
    clear hW1 hbx
    rw [hy, Oper.uponIn_round]
    refine ⟨(fun h => by cases h), ?_⟩
    refine hR.mono ?_
    clear hy hR
    rintro e W2 (⟨rfl, hJ2, hk2⟩ | ⟨rfl, hJx2⟩)
    rotate_left
    · gi_wp2
      go_ret
      exact .inr ⟨rfl, [(tyV T.kind T.num T.name A T.args.length c, T)], by rw [T.list_eq]; exact ⟨listL T.args, by simp⟩, hJx2⟩
    have hbx2 : W2.heap[bx]? = some (.cells #[.int .i64 T.kind, .int .i64 T.num, .string T.name, .slice A T.args.length c] 24 (0, 0)) := (hk2.same _ _ _ HBX.out).trans HBX.out
    obtain ⟨y0, y1, y2, y3⟩ := box4 hbx2
    have HJ2 := Lib.hid hJ2; have HK2 := Lib.hid (HB1.out.t hk2)
    clear hbx2 hJ2 hk2
    gi_wp2
    gi_loopw [14] (fun iv wr => ∃ (k : Nat) (q : List (Value × Ty)), k ≤ T.args.length ∧ iv = .int .i64 k ∧ Hid (q.map Prod.snd = listL (T.args.take k) ∧ J (pre ++ (tyV T.kind T.num T.name A T.args.length c, T) :: q) wr ∧ TyK n₀ W wr)) (fun iv _ => T.args.length - (intOf iv).toNat)
    case atStart => exact ⟨0, [], by omega, rfl, Lib.hid ⟨by simp [listL], HJ2.out, HK2.out⟩⟩
    case round =>
      obtain ⟨k, q, hk, rfl, HQ⟩ := hrel
      by_cases hlt : k < T.args.length
      · have hTr := HT.out.keep fun g hg => ⟨hg, HQ.out.2.2.below.block g hg⟩
        obtain ⟨b, off, A', c', rfl, hb, ht, x0, x1, x2, x3⟩ := hTr.arg hlt
        have HCA : Hid (∀ W5, Below wr.heap.size wr W5 → CallsIn Fence.wide (n - 1) Tryd.prog 92 #[tyV T.args[k].kind T.args[k].num T.args[k].name A' T.args[k].args.length c', .func (.yield l) #[] #[]] W5 fun e W' =>
            (e = .returned (.bool true) ∧ Hid ((∃ q2, q2.map Prod.snd = listL (T.args.take (k + 1)) ∧ J (pre ++ (tyV T.kind T.num T.name (some ⟨b, off, none⟩) T.args.length c, T) :: q2) W') ∧ TyK n₀ W W')) ∨ (e = .returned (.bool false) ∧ Hid (∃ q, q.map Prod.snd <+: T.list ∧ Jx (pre ++ q) W'))) := Lib.hid fun W5 h5 => by
          have hz := HNN.out _ _ HQ.out.2.1
          have hn2 : (pre ++ (tyV T.kind T.num T.name (some ⟨b, off, none⟩) T.args.length c, T) :: q).length + T.args[k].parts ≤ N := by
            have h1 := HN.out
            have h2 := congrArg List.length HQ.out.1
            have h3 := (listL_prefix hlt).length_le
            simp only [List.length_append, Ty.list_length, listL_length, List.length_map] at h2 h3
            rw [T.parts_eq] at h1
            rw [List.length_append, List.length_cons]
            omega
          refine (IH.out k hlt (n - 1) _ _ W5 (ht.keep fun g hg => ⟨hg, h5.block g (by omega)⟩) (HJA.out _ _ _ HQ.out.2.1 h5) hn2).mono ?_
          rintro e W' (⟨rfl, ⟨q2, e2, hj2⟩, hk2⟩ | ⟨rfl, q2, e2, hj2⟩)
          · refine .inl ⟨rfl, Lib.hid ⟨⟨q ++ q2, ?_, ?_⟩, HQ.out.2.2.t ((TyK.of hz h5).t hk2)⟩⟩
            · rw [List.map_append, HQ.out.1, e2, listL_take hlt]
            · simpa using hj2
          · refine .inr ⟨rfl, Lib.hid ⟨(tyV T.kind T.num T.name (some ⟨b, off, none⟩) T.args.length c, T) :: (q ++ q2), ?_, by simpa using hj2⟩⟩
            rw [T.list_eq, List.map_cons, List.map_append, HQ.out.1]
            refine (List.prefix_cons_inj _).2 (List.IsPrefix.trans ?_ (listL_prefix hlt))
            exact (List.prefix_append_right_inj _).2 e2
        have HB5 : Hid (∀ o : Obj, Below wr.heap.size wr (wr.alloc o)) := Lib.hid fun o => (Below.refl _ _).alloc (Nat.le_refl _) o
        clear ht hTr
        generalize T.args[k] = U at *
        unfold tyV at HCA
        gi_wp2_with (refine ⟨trivial, (fun h => by cases h), ?_⟩; gi_at_call 92; refine (HCA.out _ (HB5.out _)).mono ?_; rintro e W6 (⟨rfl, H6⟩ | ⟨rfl, H6⟩))
        · go_roundw
          case rel =>
            obtain ⟨⟨q2, h1, h2⟩, h3⟩ := H6.out
            exact ⟨k + 1, q2, by omega, by go_num, Lib.hid ⟨h1, h2, h3⟩⟩
          case measure => simp [intOf]; omega
        · go_ret
          exact .inr ⟨rfl, H6.out⟩
      · have hkl : k = T.args.length := by omega
        have HE : Hid ((∃ q, q.map Prod.snd = T.list ∧ J (pre ++ q) wr) ∧ TyK n₀ W wr) := Lib.hid (by
          obtain ⟨h1, h2, h3⟩ := HQ.out
          rw [hkl, List.take_length] at h1
          exact ⟨⟨_ :: q, by rw [T.list_eq, List.map_cons, h1], h2⟩, h3⟩)
        gi_wp2
        go_ret
        exact .inl ⟨rfl, HE.out⟩
end Go.Proofs.YtbhicpjhijondaaDoor
