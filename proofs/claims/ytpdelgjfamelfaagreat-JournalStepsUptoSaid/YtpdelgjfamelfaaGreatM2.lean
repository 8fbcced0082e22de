/- Merged of It V13 V14 VQ VR VS VT VU VW VX V15. -/
import Derived.Test.YtpdelgjfamelfaaGreatLays
import Derived.Test.YtpdelgjfamelfaaGreatM1
import Derived.RangeFuncNested
import Derived.RangeFuncBound
import Derived.RangeFuncCalls
import Derived.RangeFuncLeaves
import Derived.RangeFuncFrom
import Derived.Shelf.Abstract
import Derived.OwnWalkIn
import Derived.TacticsInMore
import Derived.LoopNIn
import Derived.LoopIn
import Derived.OrdersIn
import Derived.RangeFuncWrites
import Derived.Maps.OwnIn
/- It -/
/- slices.Sorted(maps.Keys(m)) at this dump (the kit's tool lay-iter.mjs wrote these theorems). -/
namespace Go.Proofs.YtpdelgjfamelfaaGreat
open Go.RowKit Go.Maps Go.Sort Go.Shelf

/-- slices.Sort's two contracts at this dump, at the fence that asks nothing. -/
theorem sortsK (m : Nat) : AnyZ.SortsIn Tryz.prog Tryz.sorted71_ren Fence.wide m :=
  ⟨fun blk off cap ss W hH hblk hsz => callsIn_wide.2 (AnyM.slices_Sort_string Tryz.sort88 blk off cap ss W hH hblk hsz),
   fun p cap W => callsIn_wide.2 (AnyM.slices_Sort_string_none Tryz.sort88 p cap W)⟩

/-- **maps.Keys[map[string]*parlance/vfs.file,string,*parlance/vfs.file], at whatever map, the nil one too:** a function value over ONE NEW BLOCK, which holds the map. -/
theorem mapsKeys (mb : Option Nat) (W : World) : CallsIn Fence.wide 5 Tryz.prog 72 #[.map mb] W fun e w' => e = .returned (.func (.func 89) #[] #[.pointer (some ⟨W.heap.size, 0, none⟩)]) ∧ w' = W.alloc (.cells #[.map mb] 72) :=
  AnyZ.keys_in Tryz.keys72 Fence.wide 5 trivial rfl mb W

set_option maxHeartbeats 1000000 in
/-- **slices.Sorted[string] AT WHAT maps.Keys[map[string]*parlance/vfs.file,string,*parlance/vfs.file] HANDED BACK FOR A MAP THAT IS NOT nil** ('w': the world AHEAD of maps.Keys' call): A NEW SLICE THAT HOLDS THE MAP's KEYS, SORTED; nil just where it has none; nothing that lay before has turned. -/
theorem sortedKeys {H : Type} (b nn : Nat) (D0 : DataW H) (R : Value → Option (DataW H × List MemPlace)) (w : World) (hown : w.ownsMap Tryz.prog 9 R b nn D0) (hmax : Maps.size D0 ≤ maxLen) (hbytes : Maps.size D0 * 16 ≤ 140737488355328) :
    CallsIn Fence.wide 5 Tryz.prog 71 #[.func (.func 89) #[] #[.pointer (some ⟨w.heap.size, 0, none⟩)]] (w.alloc (.cells #[.map (some b)] 72)) fun e w' => ∃ (v : Value) (ss : List (List UInt8)), e = .returned v ∧ ss.Perm (strKeys D0) ∧
      w'.ownsRow (w.alloc (.cells #[.map (some b)] 72)).heap.size 9 1 v ss.length ((ss.mergeSort (fun x y => decide (x ≤ y))).map encStr) ∧ (v = .slice none 0 0 ↔ ss = []) ∧ Below (w.alloc (.cells #[.map (some b)] 72)).heap.size (w.alloc (.cells #[.map (some b)] 72)) w' := by
  have hbl := hown.lt
  have hseq : SeqGives Fence.wide 2 Tryz.prog 89 #[.pointer (some ⟨w.heap.size, 0, none⟩)] encStr (fun ss => ss.Perm (strKeys D0)) (Maps.size D0) (w.alloc (.cells #[.map (some b)] 72)) :=
    AnyZ.keys_gives (ρ := Tryz.keys72_ren) { Tryz.keys72 with } Fence.wide _ trivial rfl (by omega) w.heap.size b nn D0 _ (by simp) (by simp) (by
      obtain ⟨es, clock, hb, Ft, hs, hD⟩ := hown
      exact ⟨es, clock, (Below.heap_alloc _ _ b hbl).trans hb, Ft, hs, hD⟩)
  exact AnyZ.sorted_in Tryz.sorted71 Fence.wide 5 trivial trivial trivial trivial rfl (by omega) (sortsK _) (enters_of Tryz.func88 (by kernel_rfl) rfl) 89 #[.pointer (some ⟨w.heap.size, 0, none⟩)] trivial (enters_of Tryz.func89 (by kernel_rfl) rfl) _ _ hmax hbytes _ hseq

end Go.Proofs.YtpdelgjfamelfaaGreat
/- V13 -/
namespace Go.Proofs.YtpdelgjfamelfaaGreat
open Go.RowKit Go.Lib Go.Vfs Go.Par Go.Shelf
set_option linter.unusedVariables false
attribute [local go_sem] Oper.semAt_some

/- names in their order. -/
theorem before_lt : ∀ {a b : List UInt8}, bytesBefore a b = true ↔ a < b
  | [], [] => by simp [bytesBefore]
  | [], _ :: _ => by simp [bytesBefore]
  | _ :: _, [] => by simp [bytesBefore]
  | a :: r, b :: s => by
    simp only [bytesBefore, Bool.or_eq_true, Bool.and_eq_true, decide_eq_true_eq, beq_iff_eq, List.cons_lt_cons_iff, before_lt (a := r) (b := s)]
theorem sorted_names {xs : List FileR} (h : Rising keyR xs) {ss : List (List UInt8)} (hp : ss.Perm (xs.map keyR)) : ss.mergeSort (fun x y => decide (x ≤ y)) = xs.map keyR := by
  apply List.Perm.eq_of_pairwise (le := fun a b : List UInt8 => a ≤ b)
  · intro a b _ _ h1 h2; exact List.le_antisymm h1 h2
  · have := List.pairwise_mergeSort (le := fun x y : List UInt8 => decide (x ≤ y)) (fun a b c h1 h2 => by simp at h1 h2 ⊢; exact List.le_trans h1 h2) (fun a b => by simp; exact List.le_total a b) ss
    exact this.imp (fun h => by simpa using h)
  · rw [List.pairwise_map]
    exact h.imp (fun {a b} hab => List.not_lt.1 (fun hlt => by
      have h1 := before_lt.1 hab
      have h2 := before_lt.2 hlt
      rw [before_asymm hab] at h2; cases h2))
  · exact (List.mergeSort_perm ss _).trans hp
theorem strKeys_dat (xs : List FileR) : strKeys (dat xs) = xs.map keyR := by
  unfold strKeys dat
  simp only [List.map_map]
  rfl

theorem names_row {W1 : World} {v : Value} {ss : List (List UInt8)} {xs : List FileR} {base : Nat} (h : Rising keyR xs) (hS : ss.Perm (strKeys (dat xs))) (hrow : W1.ownsRow base 9 1 v ss.length ((ss.mergeSort (fun x y => decide (x ≤ y))).map Go.Proofs.encStr)) :
    ∃ A c, v = .slice A xs.length c ∧ c ≤ 9223372036854775807 ∧ xs.length ≤ c ∧ (0 < xs.length → ∃ g cur, A = some ⟨g, 0, none⟩ ∧ base ≤ g ∧ W1.heap[g]? = some (.cells cur 9 (0, 0)) ∧ ∀ k (hk : k < xs.length), cur[k]? = some (.string ⟨(xs[k]'hk).f.name.toArray⟩)) := by
  rw [strKeys_dat] at hS
  have hl : ss.length = xs.length := by have := hS.length_eq; simpa using this
  rw [sorted_names h hS] at hrow
  rcases hrow.2 with ⟨h1, h2⟩ | ⟨g, cap, cur, h1, h2, h3, h4, h5, h6, h7⟩
  · have h0 : xs.length = 0 := by omega
    exact ⟨none, 0, by rw [h1, h0], by omega, by omega, fun hp => by omega⟩
  · refine ⟨_, cap, by rw [h1, hl], by simpa [maxLen] using h5, by omega, fun _ => ⟨g, cur, rfl, h2, h3, fun k hk => ?_⟩⟩
    have h8 := congrArg (·[k]?) h7
    simp only [List.getElem?_take] at h8
    rw [if_pos (by omega)] at h8
    rw [Array.getElem?_toList] at h8
    rw [h8]
    simp [hk, keyR]

/-- what a round of a loop over the files keeps: all but what the loop's body owns (Ex). -/
def KpE (n₀ : Nat) (Ex : World → Nat → Prop) (W W' : World) : Prop :=
  W.heap.size ≤ W'.heap.size ∧ (∀ k o, W.heap[k]? = some o → (k < n₀ ∨ o.isCells = true) → ¬ Ex W k → W'.heap[k]? = some o) ∧ (∀ k, Ex W' k → Ex W k ∨ W.heap.size ≤ k)
theorem kpE_refl (n₀ : Nat) (Ex : World → Nat → Prop) (W : World) : KpE n₀ Ex W W := ⟨Nat.le_refl _, fun _ _ h _ _ => h, fun _ h => .inl h⟩
theorem kpE_t {n₀ : Nat} {Ex : World → Nat → Prop} {A B C : World} (h : KpE n₀ Ex A B) (k : KpE n₀ Ex B C) : KpE n₀ Ex A C :=
  ⟨Nat.le_trans h.1 k.1, fun i o hi hc hn => k.2.1 i o (h.2.1 i o hi hc hn) hc (fun he => by
    rcases h.2.2 i he with h1 | h1
    · exact hn h1
    · have := lt_of_block hi; omega), fun i hi => by
    rcases k.2.2 i hi with h1 | h1
    · exact h.2.2 i h1
    · right; have := h.1; omega⟩

theorem look_map {w : World} {xs : List FileR} {mb n : Nat} (hm : w.ownsMap Tryz.prog 9 ptrElem mb n (dat xs)) (s : ByteArray) (hs : s.size ≤ 9223372036854775807) :
    (Instr.lookup 72 (.map (some mb)) (.string s) false).run Tryz.prog w = .ok (ptrOf xs s.data.toList) w := by
  obtain ⟨v, ps, hrun, hv⟩ := hm.lookup strK Tryz.underlying72 (zeroPtr _) (zd := .nil) (zp := []) rfl (keyStr s hs)
  rw [hrun]
  rw [dat_at] at hv
  unfold ptrOf
  cases hf : findL keyR s.data.toList xs with
  | none => rw [hf] at hv; rw [ptrElem_nil hv]
  | some x => rw [hf] at hv; rw [ptrElem_at hv]

/-- a file of the list, as the loop over the files hands it on. -/
abbrev FileOf (xs : List FileR) := { x : FileR // x ∈ xs }
def encF {xs : List FileR} (x : FileOf xs) : Array Value := #[.string ⟨x.1.f.name.toArray⟩, .pointer (some ⟨x.1.q, 0, none⟩)]

theorem attach_succ (xs : List FileR) (k : Nat) (hk : k < xs.length) : xs.attach.take (k + 1) = xs.attach.take k ++ [⟨xs[k], List.getElem_mem hk⟩] := by
  rw [List.take_succ_eq_append_getElem (by simpa using hk)]
  simp

set_option maxRecDepth 100000 in
set_option maxHeartbeats 2000000 in
theorem each_stops (w : World) (p : Nat) (pow : Int) (xs : List FileR) (mb : Nat) (h : FSAt w p pow xs mb) (hxl : xs.length ≤ 100000) (hnl : ∀ x ∈ xs, x.f.name.length ≤ 100000) (Bn n₀ : Nat) (hBn : Bn < n₀) (hn₀ : n₀ ≤ w.heap.size) (hc : w.heap[Bn]? = some (.cells #[.pointer (some ⟨p, 0, none⟩)] 24 (0, 0)))
    (hF : ∀ k, OwnF p mb xs k → k < n₀) (Ex : World → Nat → Prop) (hEx : ∀ W, Below w.heap.size w W → ∀ k, Ex W k → k < w.heap.size ∧ k ≠ Bn ∧ ¬ OwnF p mb xs k) :
    SeqStopsK Fence.wide 6 Tryz.prog 70 #[.pointer (some ⟨Bn, 0, none⟩)] (encF (xs := xs)) (KpE n₀ Ex) (fun ys => ys = xs.attach) (fun pre => pre <+: xs.attach) xs.length w := by
  intro l J Jx W hW hJ hJx hY h0
  have hWF : FSAt W p pow xs mb := h.below hW
  have hWB : W.heap[Bn]? = some (.cells #[.pointer (some ⟨p, 0, none⟩)] 24 (0, 0)) := (hW.block Bn (by omega)).trans hc
  have cB : W.cell? ⟨Bn, 0, none⟩ = some (.pointer (some ⟨p, 0, none⟩)) := by simp [World.cell?, hWB]
  have cp : W.cell? ⟨p, 0, none⟩ = some (.map (some mb)) := by simp [World.cell?, hWF.head]
  have hsz : Maps.size (dat xs) = xs.length := by unfold dat; simp [Maps.size_eq]
  have hfK : Fence.wide.fn 72 := trivial
  have hfS : Fence.wide.fn 71 := trivial
  have HWF := Lib.hid hWF; clear hWF
  have HSZ := Lib.hid hsz; clear hsz
  have HW := Lib.hid hW; clear hW
  have HWB := Lib.hid hWB; clear hWB
  have HEX := Lib.hid hEx; clear hEx
  have HFF := Lib.hid hF; clear hF
  clear hc h
  refine callsIn_of_wp Tryz.func70 rfl trivial ?_ rfl
  simp only [Tryz.ntmps70, List.size_toArray, List.length_cons, List.length_nil, Nat.reduceAdd, Nat.reduceSub, Array.replicate_succ, Array.replicate_zero, List.push_toArray, List.append_toArray, List.nil_append, List.cons_append]
  gi_wp2_with (first
    | (gi_at_call 72; refine (mapsKeys _ _).mono ?_; rintro e w' ⟨rfl, rfl⟩)
    | (gi_at_call 71; refine (sortedKeys mb xs.length (dat xs) ptrElem W HWF.out.map (by rw [HSZ.out]; unfold maxLen; omega) (by rw [HSZ.out]; omega)).mono ?_; rintro e W1 ⟨v, ss, rfl, hS, hrow, hnil, hb⟩; obtain ⟨A1, c1, rfl, hcm, hcl, hcur⟩ := names_row HWF.out.rising hS hrow; clear hS hrow hnil))
  have hbW : Below W.heap.size W W1 := ((Below.refl _ W).alloc (Nat.le_refl _) _).trans (hb.mono (by simp))
  have hJ1 : J [] W1 := hJ _ _ _ none h0 ⟨hbW.os, hbW.tape, hbW.output, hbW.size, fun k hk _ => hbW.block k hk⟩ (fun r e => by cases e)
  have HBW := Lib.hid hbW
  have HCUR := Lib.hid hcur
  clear hb hbW hcur cB cp
  gi_loopw [12] (fun i wr => ∃ k : Nat, k ≤ xs.length ∧ i = .int .i64 k ∧ KpE n₀ Ex W1 wr ∧ J (xs.attach.take k) wr) (fun i _ => xs.length - (intOf i).toNat)
  case atStart => exact ⟨0, by omega, rfl, kpE_refl _ _ _, hJ1⟩
  case round =>
    obtain ⟨k, hk, rfl, hkp, hJk⟩ := hrel
    have hWs := HW.out.size
    have hW1s := HBW.out.size
    have hb01 : Below w.heap.size w W1 := HW.out.trans (HBW.out.mono hWs)
    by_cases hlt : k < xs.length
    · obtain ⟨g, cur, rfl, hg, hgb, hget⟩ := HCUR.out (by omega)
      have hold : ∀ i o, i < n₀ → W.heap[i]? = some o → ¬ Ex W1 i → wr.heap[i]? = some o := fun i o hi ho hn => hkp.2.1 i o ((HBW.out.block i (by omega)).trans ho) (.inl hi) hn
      have hBr := hold Bn _ hBn HWB.out (fun he => (HEX.out W1 hb01 _ he).2.1 rfl)
      have hpr := hold p _ (HFF.out p (.inl rfl)) HWF.out.head (fun he => (HEX.out W1 hb01 _ he).2.2 (.inl rfl))
      have hmr : wr.ownsMap Tryz.prog 9 ptrElem mb xs.length (dat xs) := by
        obtain ⟨es, clock, hm, r⟩ := HWF.out.map
        exact ⟨es, clock, hold mb _ (HFF.out mb (.inr (.inl rfl))) hm (fun he => (HEX.out W1 hb01 _ he).2.2 (.inr (.inl rfl))), r⟩
      have hgr : wr.heap[g]? = some (.cells cur 9 (0, 0)) := hkp.2.1 g _ hgb (.inr rfl) (fun he => by have := (HEX.out W1 hb01 _ he).1; simp at hg; omega)
      obtain ⟨x, hx⟩ : ∃ x, x = xs[k] := ⟨_, rfl⟩
      have hxm : x ∈ xs := by rw [hx]; exact List.getElem_mem hlt
      have hgk := hget k hlt
      rw [← hx] at hgk
      have cB : wr.cell? ⟨Bn, 0, none⟩ = some (.pointer (some ⟨p, 0, none⟩)) := by simp [World.cell?, hBr]
      have cp : wr.cell? ⟨p, 0, none⟩ = some (.map (some mb)) := by simp [World.cell?, hpr]
      have cg : wr.cell? ⟨g, k, none⟩ = some (.string ⟨x.f.name.toArray⟩) := by simp [World.cell?, hgr, hgk]
      have hlook := look_map hmr ⟨x.f.name.toArray⟩ (by have := hnl x hxm; rw [Lib.size_eq]; simp; omega)
      have hptr : ptrOf xs (⟨x.f.name.toArray⟩ : ByteArray).data.toList = .pointer (some ⟨x.q, 0, none⟩) := by
        have : findL keyR (keyR x) xs = some x := HWF.out.rising.findL hxm
        unfold ptrOf
        rw [show (⟨x.f.name.toArray⟩ : ByteArray).data.toList = keyR x by simp [keyR], this]
      rw [hptr] at hlook
      have hpre : (xs.attach.take k).length < xs.length := by simp; omega
      obtain ⟨fn, tmps, assign, body, hy, hR⟩ := hY (xs.attach.take k) ⟨x, hxm⟩ wr hJk hpre
      dsimp only [encF] at hy
      have HSU : Hid (xs.attach.take (k + 1) = xs.attach.take k ++ [⟨x, hxm⟩]) := Lib.hid (by rw [attach_succ xs k hlt]; congr 2; exact Subtype.ext hx.symm)
      have HKP := Lib.hid hkp; clear hkp
      clear hold hBr hpr hmr hgr hget hgk hptr hx hgb
      gi_wp2
      refine hR.mono ?_
      rintro e W3 (⟨rfl, hJ3, hk3⟩ | ⟨rfl, hJx3⟩)
      · rw [← HSU.out] at hJ3
        gi_wp2
        go_roundw
        case rel => exact ⟨k + 1, by omega, by go_num, kpE_t HKP.out hk3, hJ3⟩
        case measure => simp [intOf]; omega
      · rw [← HSU.out] at hJx3
        gi_wp2
        refine bodyPost_ret (results_none rfl _ _ _) rfl ?_
        exact ⟨⟨_, rfl⟩, .inr ⟨_, List.take_prefix _ _, hJx3⟩⟩
    · have hkl : k = xs.length := by omega
      have hJe : J xs.attach wr := by rw [hkl] at hJk; rwa [List.take_of_length_le (by simp)] at hJk
      clear hkp
      gi_wp2
      go_end0
      exact ⟨⟨_, rfl⟩, .inl ⟨_, rfl, hJe⟩⟩
end Go.Proofs.YtpdelgjfamelfaaGreat
/- V14 -/
namespace Go.Proofs.YtpdelgjfamelfaaGreat
open Go.RowKit Go.Lib Go.Vfs Go.Par Go.Shelf
set_option linter.unusedVariables false
attribute [local go_sem] Oper.semAt_some

theorem wpListIn_app {F : Fence} {n : Nat} {P : Program} (w : World) {ops : Array Oper} {rest : List Oper} {o : Oper} {a : Act} {Q : Exit → Act → World → Prop} (hgd : o.guard = none) (s x : Operand) (t : TypeId)
    (ho : o.op = .call { callee := .builtin .append, args := #[s, x], argTypes := #[t, t] })
    (base : Nat) (e : TypeId) (z : Value) (E : Elem P t e z) (v : Value) (xs : List Value) (hs : a.eval s = v) (hown : Par.Own w base e v xs)
    (B : Nat) (u : Value) (news : List Value) (hx : a.eval x = u) (hsg : Seg w B u news) (h1 : ∀ x ∈ news, x.oneCell' = true)
    (hbd : xs.length + news.length ≤ 2147483648) (hbase : base ≤ w.heap.size)
    (h : ∀ v' w', Par.Own w' base e v' (xs ++ news) → w.grownBy w' v.ownBlock → (v'.ownBlock = v.ownBlock ∨ v'.ownBlock = some w.heap.size) → wpListIn F n P ops Q rest (a.put o.dst v') w') : wpListIn F n P ops Q (o :: rest) a w := by
  refine wpListIn_plain hgd fun K hK' => ?_
  obtain ⟨v', w', hrun, r1, r2, r3⟩ := run_app (P := P) w base t o.type e z E v xs hown B u news hsg h1 hbd hbase
  unfold Oper.wpIn
  refine ⟨?_, ?_⟩
  · simp [Oper.about, ho, resolve, Target.leads, Sem.run_pure]
  · rw [Oper.semAt_plain F _ _ (by rw [ho]; intro c hc'; cases hc')]
    simp [execOp, ho, resolve, invoke, builtin, hs, hx, hrun, Result.andThen]
    exact hK' _ _ (h v' w' r1 r2 r3)

def strs (ls : List (List UInt8)) : List Value := ls.map fun l => .string ⟨l.toArray⟩
theorem strs_length (ls : List (List UInt8)) : (strs ls).length = ls.length := by simp [strs]
theorem strs_append (a b : List (List UInt8)) : strs (a ++ b) = strs a ++ strs b := by simp [strs]
theorem one_strs (ls : List (List UInt8)) : ∀ x ∈ strs ls, x.oneCell' = true := by
  intro x hx
  obtain ⟨z, _, rfl⟩ := List.mem_map.1 hx
  rfl
theorem strE : Elem Tryz.prog 107 9 (.string ⟨#[]⟩) := elem_of (b := 16) Tryz.underlying107 (by kernel_rfl) (by decide) rfl

theorem each_any (p : Nat) (w : World) : Calls Tryz.prog 43 #[.pointer (some ⟨p, 0, none⟩)] w fun e w' =>
    e = .returned (.func (.func 70) #[] #[.pointer (some ⟨w.heap.size, 0, none⟩)]) ∧ w.alloc (.cells #[.pointer (some ⟨p, 0, none⟩)] 24) = w' := by
  go_enter Tryz.func43, Tryz.ntmps43
  go_wp2
  go_ret
  exact ⟨rfl, rfl⟩

def namesOf {xs : List FileR} (pre : List (FileOf xs)) : List (List UInt8) := pre.map fun x => x.1.f.name
theorem namesOf_snoc {xs : List FileR} (pre : List (FileOf xs)) (x : FileOf xs) : namesOf (pre ++ [x]) = namesOf pre ++ [x.1.f.name] := by simp [namesOf]
theorem namesOf_length {xs : List FileR} (pre : List (FileOf xs)) : (namesOf pre).length = pre.length := by simp [namesOf]
theorem namesOf_all (xs : List FileR) : namesOf xs.attach = (xs.map (·.f)).map File.name := by simp [namesOf]
/-- what the loop of Names owns: the box of its variable, and the row in it. -/
def ExN (b : Nat) (W : World) (k : Nat) : Prop := k = b ∨ ∃ v, W.cell? ⟨b, 0, none⟩ = some v ∧ v.ownBlock = some k

theorem putObj_heap (W : World) (l : Nat) (o' : Obj) {k : Nat} (h : k ≠ l) : (W.putObj l o').heap[k]? = W.heap[k]? := by
  rcases Nat.lt_or_ge k W.heap.size with hk | hk
  · exact (grownBy_putObj' W l o').block k hk (fun e => h (by cases e; rfl))
  · have h1 : (W.putObj l o').heap.size = W.heap.size := by simp [World.putObj]
    rw [Array.getElem?_eq_none (by omega), Array.getElem?_eq_none (by omega)]
theorem kpE_putObj {n₀ : Nat} {Ex : World → Nat → Prop} {W : World} {l : Nat} {o o' : Obj} (hl : n₀ ≤ l) (h : W.heap[l]? = some o) (hc : o.isCells = false) (hE : ∀ k, Ex (W.putObj l o') k → Ex W k) : KpE n₀ Ex W (W.putObj l o') := by
  refine ⟨by simp [World.putObj], fun k ob hk hor hn => ?_, fun k hk => .inl (hE k hk)⟩
  have hne : k ≠ l := fun e => by
    subst e
    rw [h] at hk; cases hk
    rcases hor with h1 | h1
    · omega
    · rw [hc] at h1; cases h1
  rw [putObj_heap W l o' hne]; exact hk

set_option maxRecDepth 100000 in
set_option maxHeartbeats 2000000 in
theorem names_any (w : World) (p : Nat) (st : St) (F : Nat → Prop) (h : Fsy w p st F) (hfl : st.files.length ≤ 100000) (hnl : ∀ f ∈ st.files, f.name.length ≤ 100000) :
    Calls Tryz.prog 58 #[.pointer (some ⟨p, 0, none⟩)] w fun e w' => ∃ v, e = .returned v ∧ Par.Own w' w.heap.size 9 v (strs (st.files.map File.name)) ∧ Below w.heap.size w w' := by
  obtain ⟨xs, mb, hfs, hat, rfl⟩ := h
  have hxl : xs.length ≤ 100000 := by rw [hfs] at hfl; simpa using hfl
  have hxn : ∀ x ∈ xs, x.f.name.length ≤ 100000 := fun x hx => hnl x.f (by rw [hfs]; exact List.mem_map_of_mem hx)
  have hlt := hat.lt
  have hb0 : Below w.heap.size w ((w.alloc (.cells #[.slice none 0 0] 107)).alloc (.cells #[.pointer (some ⟨p, 0, none⟩)] 24)) := ((Below.refl _ w).alloc (Nat.le_refl _) _).alloc (by simp) _
  have hat2 := hat.below hb0
  have bO := Boxed.new w 107 (.slice none 0 0)
  have bN := Boxed.new (w.alloc (.cells #[.slice none 0 0] 107)) 24 (.pointer (some ⟨p, 0, none⟩))
  rw [World.size_alloc] at bN
  have bO2 := bO.alloc (.cells #[.pointer (some ⟨p, 0, none⟩)] 24)
  have hseq := each_stops _ p st.power xs mb hat2 hxl hxn (w.heap.size + 1) (w.heap.size + 2) (by omega) (by simp) bN (fun k hk => by have := hlt k hk; omega) (ExN w.heap.size) (fun W hW k hk => by
    rcases hk with rfl | ⟨v, hv, hk⟩
    · exact ⟨by simp; omega, by omega, fun ho => by have := hlt _ ho; omega⟩
    · rw [hW.cell (p := ⟨w.heap.size, 0, none⟩) (by simp; omega), bO2.cell] at hv
      cases hv
      simp [Value.ownBlock] at hk)
  have HFS := Lib.hid hfs; clear hfs hfl hnl
  have HAT := Lib.hid hat; clear hat hat2
  have HSEQ := Lib.hid hseq; clear hseq
  have HB0 := Lib.hid hb0; clear hb0
  have HLT := Lib.hid hlt; clear hlt
  clear hxn
  refine (callsIn_wide (n := 7)).1 ?_
  refine callsIn_of_wp_marks Tryz.func58 rfl trivial ?_ rfl
  simp only [Tryz.ntmps58, List.size_toArray, List.length_cons, List.length_nil, Nat.reduceAdd, Nat.reduceSub, Array.replicate_succ, Array.replicate_zero, List.push_toArray, List.append_toArray, List.nil_append, List.cons_append]
  gi_wp2_with (refine ⟨trivial, ?_⟩; gi_at_call 43; refine (callsIn_wide.2 (each_any p _)).mono ?_; rintro e w1 ⟨rfl, rfl⟩)
  refine wpIn_rangeFunc_ownF (F := Fence.wide) rfl (by omega) (gf := 70) (lb := #[.pointer (some ⟨w.heap.size + 1, 0, none⟩)]) rfl trivial (enters_of Tryz.func70 (by kernel_rfl) rfl)
    HSEQ.out kpE_t ?hKb (Below.refl _ _) (fun _ => rfl)
    (fun pre W => (∃ v, Boxed W w.heap.size 107 v ∧ W.ownsRow w.heap.size 9 1 v (strs (namesOf pre)).length (strs (namesOf pre)) ∧ True) ∧ Below w.heap.size w W)
    (fun _ _ _ => False)
    (OwnFrom.and (Go.Own.from (holdsRow_own w.heap.size w.heap.size 107 9 1 (fun pre : List (FileOf xs) => (strs (namesOf pre)).length) (fun pre => strs (namesOf pre)) (fun _ _ => True)) _) (ownFrom_below (Nat.le_refl _) (by simp; omega)))
    (fun _ _ _ _ _ hs _ _ => hs)
    ⟨⟨_, bO2, World.ownsRow_nil _ _ _ _, trivial⟩, HB0.out⟩
    (fun x => { tmps := #[.pointer (some ⟨p, 0, none⟩), undef, .slice none 0 0, .pointer (some ⟨w.heap.size, 0, none⟩), .string ⟨x.1.f.name.toArray⟩, .pointer (some ⟨p, 0, none⟩), .func (.func 70) #[] #[.pointer (some ⟨w.heap.size + 1, 0, none⟩)], .string ⟨x.1.f.name.toArray⟩, .pointer (some ⟨x.1.q, 0, none⟩), undef, undef, undef, undef, undef], defers := [] }) ?assign ?body ?done ?stop
  case hKb =>
    intro W l o o' hl hget hcl hwl
    simp only [World.size_alloc] at hl
    refine kpE_putObj (by omega) hget hcl (fun k hk => ?_)
    rcases hk with rfl | ⟨v, hv, hk⟩
    · exact .inl rfl
    · refine .inr ⟨v, ?_, hk⟩
      rw [World.cell?_of_block (w := W) (putObj_heap W l o' (by show w.heap.size ≠ l; omega))] at hv
      exact hv
  case assign =>
    intro l x W K hK
    dsimp only [encF]
    gi_wp2
    exact hK
  case body =>
    rintro l pre x W ⟨⟨v, hv, hrow, _⟩, hB⟩ hlen
    have hc := hv.cell
    have hz := hB.size
    have hsg := Seg.new W 9 #[.string ⟨x.1.f.name.toArray⟩] (strs [x.1.f.name]) rfl (by simp [strs, maxLen])
    have hown : Par.Own (W.alloc (.cells #[.string ⟨x.1.f.name.toArray⟩] 9)) w.heap.size 9 v (strs (namesOf pre)) := hrow.alloc _
    have hnr := hv.not_row (by decide) hrow
    have hns := namesOf_snoc pre x
    have hbd : (strs (namesOf pre)).length + (strs [x.1.f.name]).length ≤ 2147483648 := by rw [strs_length, strs_length, namesOf_length]; simp; omega
    generalize namesOf pre = ns at *
    have HNS := Lib.hid hns; clear hns
    have hbs : w.heap.size ≤ (W.alloc (.cells #[.string ⟨x.1.f.name.toArray⟩] 9)).heap.size := by simp; omega
    have HBD := Lib.hid hbd; clear hbd
    have HBS := Lib.hid hbs; clear hbs
    gi_wp2_with (gi_at_builtin; refine wpListIn_app _ rfl _ _ 107 rfl w.heap.size 9 _ strE _ _ rfl hown _ _ _ rfl hsg (one_strs _) HBD.out HBS.out ?_)
    intro v' w1 hown' hgrow hat1
    have hlen' : w1.ownsRow w.heap.size 9 1 v' ((strs ns).length + 1) (strs ns ++ strs [x.1.f.name]) := by
      unfold Par.Own at hown'
      rw [List.length_append] at hown'
      exact hown'
    clear hown'
    obtain ⟨g', cap', rfl⟩ := ownsRow_succ hlen'
    obtain ⟨hv1, hv2, hr2, hk2, hb2⟩ := hv.appended (by decide) hrow hB.size (Nat.le_refl _) hlen' hgrow
    have hc1 := hv1.cell
    have hf1 := hv1.frozen
    gi_wp2
    refine ⟨hk2, ?_, ⟨_, hv2, ?_, trivial⟩, hB.trans hb2⟩
    · refine ⟨hb2.size, fun k o hk _ hn => ?_, fun k hk => ?_⟩
      · have hkl := lt_of_block hk
        rw [Below.heap_setCell _ _ _ _ (fun e => hn (.inl e))]
        rw [hgrow.block k (by simp; omega) (fun e => hn (.inr ⟨v, hc, e.symm⟩))]
        rw [Below.heap_alloc _ _ _ hkl]
        exact hk
      · rcases hk with rfl | ⟨u, hu, hk⟩
        · exact .inl (.inl rfl)
        · rw [hv2.cell] at hu
          cases hu
          rcases hat1 with h1 | h1
          · rw [h1] at hk; exact .inl (.inr ⟨v, hc, hk⟩)
          · rw [h1] at hk; cases hk; right; simp
    · rw [HNS.out, strs_append, List.length_append]
      exact hr2
  case done =>
    rintro D ys W hD rfl ⟨⟨v, hv, hrow, _⟩, hB⟩ hK
    have hc := hv.cell
    have hz := hB.size
    gi_wp2
    refine ⟨by simp, .inl ⟨_, _, rfl, run_takeDeferred hK, ?_⟩⟩
    refine ⟨_, results_tmp rfl _ _ _, v, rfl, ?_, hB.trans (belowK_b (w := w) (Nat.le_refl _) W D _ _ (by simp at hD; omega) hK rfl rfl)⟩
    have hr := ownsRow_putObj hrow (.deferred none) hK rfl
    rw [namesOf_all, ← HFS.out] at hr
    exact hr
  case stop =>
    rintro D c pre W _ _ h _
    exact h.elim
end Go.Proofs.YtpdelgjfamelfaaGreat
/- VQ -/
/- Regions that draw their order inside a round of a loop over an iterator, at the fence that asks nothing: the quiet law; a law by an invariant. No function of the program in sight. -/
namespace Go.Proofs.YtpdelgjfamelfaaGreat
open Go.RowKit Go.Shelf
set_option linter.unusedVariables false

section
variable {P : Program} {ops : Array Oper} {md : Region.Mode} {C : World → Prop} {l n : Nat}

/-- no operation of the list is a defer statement. -/
def noDefer (ops : List Oper) : Bool := ops.all fun o => match o.op with | .defer _ => false | _ => true
theorem noDefer_at {ops : List Oper} (h : noDefer ops = true) {i : Nat} {o : Oper} (ho : ops[i]? = some o) : ∀ c, o.op ≠ .defer c := by
  intro c e
  have := List.all_eq_true.1 h o (List.mem_of_getElem? ho)
  rw [e] at this
  cases this

theorem operIn_of_quiet {o : Oper} (hnd : ∀ c, o.op ≠ .defer c) {a : Act} {K : Act → Prop} {K' : Act → World → Prop} {Q' : Exit → Act → World → Prop} {w : World} (hw : C w) (h : ∀ a w', C w' → K a → K' a w') (hh : o.quiet P a C K) :
    o.wpIn (Fence.wide.inRound l) n P a w K' Q' := by
  obtain ⟨v, h1, h2⟩ := hh
  have h3 := h1 w hw
  unfold Oper.quietAt at h3
  unfold Oper.wpIn
  refine ⟨fun _ _ => trivial, ?_⟩
  rw [show (Fence.wide.inRound l).round = some l from rfl, Oper.semAt_some l a.eval o hnd]
  generalize (execOp a.eval o).run P w = r at *
  cases r with
  | ok m w' =>
    cases m <;> simp only [Oper.quietUpon] at h3 <;> simp only [Oper.uponIn]
    case value u =>
      obtain ⟨e1, e2⟩ := h3
      rw [e1, e2]
      exact h _ _ hw h2
    case skip =>
      obtain ⟨e1, e2⟩ := h3
      rw [e1, ← e2]
      exact h _ _ hw h2
    case enter f args =>
      obtain ⟨e1, hc⟩ := h3
      rw [e1]
      refine ⟨(fun h => by cases h), CallsIn.inRound l (callsIn_wide.2 (hc.mono fun e w'' ⟨he, hw''⟩ => ?_))⟩
      subst he
      exact h _ _ hw'' h2
  | halt x w' => simp only [Oper.quietUpon] at h3

theorem wpOpIn_of_qOp (hnd : noDefer ops.toList = true) {i : Nat} {a : Act} {K : Act → Prop} {K' : Act → World → Prop} {Q' : Exit → Act → World → Prop} {w : World} (hC : C w) (h : ∀ a w', C w' → K a → K' a w') (hh : qOp P ops C i K a) :
    wpOpIn (Fence.wide.inRound l) n P ops Q' i K' a w := by
  unfold qOp at hh
  unfold wpOpIn
  split
  · rename_i ho; simp only [ho] at hh; exact h _ _ hC hh
  · rename_i o ho
    simp only [ho] at hh
    split
    · rename_i hw; simp only [hw, if_true] at hh; exact operIn_of_quiet (noDefer_at hnd (by simpa using ho)) hC h hh
    · rename_i hw; simp only [hw] at hh; exact ⟨fun _ _ => trivial, h _ _ hC hh⟩

theorem wpAnyIn_of_quiet (hnd : noDefer ops.toList = true) {Q : Act → Prop} {Q' : Exit → Act → World → Prop} (hQ : ∀ a w, C w → Q a → Q' .normal a w) : ∀ (fuel : Nat) (listed : Array Bool) (a : Act) (w : World), C w →
    wpAnyQ P md ops C Q fuel listed a → wpAnyIn (Fence.wide.inRound l) n P md ops Q' fuel listed a w
  | 0, _, _, _, hw, h => ⟨h.1, hQ _ _ hw h.2⟩
  | fuel + 1, _, _, _, hw, h => ⟨fun h0 => hQ _ _ hw (h.1 h0), fun i hi => wpOpIn_of_qOp hnd hw (fun a' w' hw' => wpAnyIn_of_quiet hnd hQ fuel _ a' w' hw') (h.2 i hi)⟩

/-- a quiet region in a round: one walk of the text's order. -/
theorem wpIn_round_quiet {id : Nat} {Q : Exit → Act → World → Prop} {a : Act} {w : World} {lo : List Oper} (hm : P.follows .mixedOrders = true) (hB : Region.lexB .any lo.toArray = true) (hnd : noDefer lo = true)
    (h : wpQuiet P lo.toArray (fun w' => ∃ n, w' = w.drewN n) (fun a' => ∀ w', (∃ n, w' = w.drewN n) → Q .normal a' w') lo a) : (Code.region id lo.toArray true).wpIn (Fence.wide.inRound l) n P Q a w := by
  simp only [Region.lexB, Bool.and_eq_true] at hB
  refine wpIn_region_any hm (wpAnyIn_of_quiet (C := fun w' => ∃ n, w' = w.drewN n) (by simpa using hnd) (Q := fun a' => ∀ w', (∃ n, w' = w.drewN n) → Q .normal a' w') (fun _ w' hw' h => h w' hw') _ _ _ _ ⟨1, rfl⟩ ?_)
  have := wpAnyQ_lex (C := fun w' => ∃ n, w' = w.drewN n) (md := .any) hB.1 lo.toArray.toList 0 (Array.replicate lo.toArray.size false) a (by simp) (by simpa using hB.2) (by simpa using h)
  simpa using this

/-- a region by an invariant over what has been done. -/
theorem wpAnyIn_inv {Q : Exit → Act → World → Prop} (Inv : Array Bool → Act → World → Prop) (hsize : ∀ L a w, Inv L a w → L.size = ops.size)
    (hdone : ∀ L a w, Inv L a w → Region.ready md ops L = [] → Q .normal a w)
    (hstep : ∀ L a w, Inv L a w → ∀ i ∈ Region.ready md ops L, wpOpIn (Fence.wide.inRound l) n P ops Q i (fun a' w' => Inv (L.setIfInBounds i true) a' w') a w) :
    ∀ (fuel : Nat) (L : Array Bool) (a : Act) (w : World), L.toList.count false ≤ fuel → Inv L a w → wpAnyIn (Fence.wide.inRound l) n P md ops Q fuel L a w
  | 0, L, a, w, hf, h => by
    have hr : Region.ready md ops L = [] := by
      apply List.eq_nil_iff_forall_not_mem.2
      intro i hi
      obtain ⟨hu, o, ho, _⟩ := mem_ready.1 hi
      have hlt : i < L.size := by rw [hsize L a w h]; exact (Array.getElem?_eq_some_iff.1 ho).1
      have : false ∈ L.toList := by
        have h2 : L[i] = false := by simpa [hlt] using hu
        rw [← h2]
        exact Array.getElem_mem_toList hlt
      have := List.count_pos_iff.2 this
      omega
    exact ⟨hr, hdone L a w h hr⟩
  | fuel + 1, L, a, w, hf, h => by
    refine ⟨hdone L a w h, fun i hi => wpOpIn_mono (fun a' w' h' => wpAnyIn_inv Inv hsize hdone hstep fuel _ a' w' ?_ h') (hstep L a w h i hi)⟩
    obtain ⟨hu, o, ho, _⟩ := mem_ready.1 hi
    have hlt : i < L.size := by rw [hsize L a w h]; exact (Array.getElem?_eq_some_iff.1 ho).1
    have h2 : L[i] = false := by simpa [hlt] using hu
    have h3 : false ∈ L.toList := by rw [← h2]; exact Array.getElem_mem_toList hlt
    have h4 := List.count_pos_iff.2 h3
    rw [Array.toList_setIfInBounds, List.count_set (by simpa using hlt)]
    have h5 : L.toList[i]'(by simpa using hlt) = false := by simpa using h2
    rw [h5]
    simp only [beq_self_eq_true, if_true]
    have h6 : (if (true == false) = true then 1 else 0 : Nat) = 0 := rfl
    omega
end
end Go.Proofs.YtpdelgjfamelfaaGreat
/- VR -/
/- The last statement of Crash's loop: by an invariant over what has been done. -/
namespace Go.Proofs.YtpdelgjfamelfaaGreat
open Go.RowKit Go.Lib Go.Vfs Go.Par Go.Shelf
set_option linter.unusedVariables false

/-- the operations of region 11 of Crash. -/
def regionOf (id : Nat) : Code → Option (Array Oper)
  | .region i ops _ => if i = id then some ops else none
  | .seq a b => match regionOf id a with
    | some c => some c
    | none => regionOf id b
  | .cond _ a b => match regionOf id a with
    | some c => some c
    | none => regionOf id b
  | .loop c => regionOf id c
  | .block _ c => regionOf id c
  | .scope c => regionOf id c
  | .rangeFunc _ _ a b => match regionOf id a with
    | some c => some c
    | none => regionOf id b
  | _ => none
noncomputable def ops11 : Array Oper := ((Tryz.f12.body.bind (regionOf 11)).getD #[])

theorem size11 : ops11.size = 16 := by kernel_rfl
theorem getD_set {L : Array Bool} {i j : Nat} {d : Bool} (hi : i < L.size) : (L.setIfInBounds i true).getD j d = if i = j then true else L.getD j d := by
  by_cases h : i = j
  · subst h
    simp [hi]
  · simp [h]
theorem put_get {a : Act} {k j : Nat} {v : Value} (hk : k < a.tmps.size) : (a.put (some k) v).tmps.getD j undef = if k = j then v else a.tmps.getD j undef := by
  by_cases h : k = j
  · subst h
    simp [Act.put, hk]
  · simp [Act.put, h]
theorem put_size (a : Act) (d : Option Tmp) (v : Value) : (a.put d v).tmps.size = a.tmps.size := by cases d <;> simp [Act.put]

/-- what an operation is: where it writes, what it does, what it waits for. -/
def what (o : Oper) : Option Tmp × Op × List Nat × Bool := (o.dst, o.op, (o.after.toList.filter (Region.binds .any)).map (·.on), o.guard.isNone)
theorem o11_0 : (ops11[0]?).map what = some (some 49, Op.load 24 (.tmp 7), [], true) := by kernel_rfl
theorem o11_1 : (ops11[1]?).map what = some (some 50, Op.nilCheck (.tmp 49), [0], true) := by kernel_rfl
theorem o11_2 : (ops11[2]?).map what = some (some 51, Op.fieldAddr 74 (.tmp 50) 0, [1], true) := by kernel_rfl
theorem o11_3 : (ops11[3]?).map what = some (some 52, Op.load 72 (.tmp 51), [2], true) := by kernel_rfl
theorem o11_4 : (ops11[4]?).map what = some (some 53, Op.move (.tmp 9), [], true) := by kernel_rfl
theorem o11_5 : (ops11[5]?).map what = some (some 54, Op.move (.tmp 10), [], true) := by kernel_rfl
theorem o11_6 : (ops11[6]?).map what = some (some 55, Op.nilCheck (.tmp 54), [5], true) := by kernel_rfl
theorem o11_7 : (ops11[7]?).map what = some (some 56, Op.fieldAddr 79 (.tmp 55) 0, [6], true) := by kernel_rfl
theorem o11_8 : (ops11[8]?).map what = some (some 57, Op.load 22 (.tmp 56), [7], true) := by kernel_rfl
theorem o11_9 : (ops11[9]?).map what = some (some 58, Op.move (.tmp 12), [], true) := by kernel_rfl
theorem o11_10 : (ops11[10]?).map what = some (some 59, Op.slice 22 (.tmp 57) none (some (.tmp 58)) none, [8, 9], true) := by kernel_rfl
theorem o11_11 : (ops11[11]?).map what = some (some 60, Op.call { callee := .value (.func 44), args := #[.tmp 59], argTypes := #[22] }, [10], true) := by kernel_rfl
theorem o11_12 : (ops11[12]?).map what = some (some 61, Op.move (.tmp 12), [], true) := by kernel_rfl
theorem o11_13 : (ops11[13]?).map what = some (some 62, Op.build 79 #[(0, .tmp 60), (1, .tmp 61)], [11, 12], true) := by kernel_rfl
theorem o11_14 : (ops11[14]?).map what = some (some 63, Op.box 79 (.tmp 62), [13], true) := by kernel_rfl
theorem o11_15 : (ops11[15]?).map what = some (none, Op.mapUpdate 72 (.tmp 52) (.tmp 53) (.tmp 63), [3, 4, 14, 11, 0, 1, 2, 3, 4, 5, 6, 7, 8, 9, 10, 11, 12, 13, 14], true) := by kernel_rfl

theorem at11 {i : Nat} {d : Option Tmp} {op : Op} {dep : List Nat} (h : (ops11[i]?).map what = some (d, op, dep, true)) : ∃ o, ops11[i]? = some o ∧ o.dst = d ∧ o.op = op ∧ o.guard = none ∧
    ∀ L : Array Bool, i ∈ Region.ready .any ops11 L → ∀ j ∈ dep, L.getD j false = true := by
  cases ho : ops11[i]? with
  | none => rw [ho] at h; cases h
  | some o =>
    rw [ho] at h
    simp only [Option.map_some, what, Option.some.injEq, Prod.mk.injEq] at h
    refine ⟨o, rfl, h.1, h.2.1, by simpa using h.2.2.2, fun L hr j hj => ?_⟩
    obtain ⟨_, o', ho', hall⟩ := mem_ready.1 hr
    rw [ho] at ho'
    cases ho'
    rw [← h.2.2.1] at hj
    obtain ⟨e, he, rfl⟩ := List.mem_map.1 hj
    obtain ⟨he1, he2⟩ := List.mem_filter.1 he
    exact hall e (by simpa using he1) he2

/-- the values of the steady operations. -/
def V11 (pL mL q N len c2 : Nat) (A2 : Option Addr) (S : ByteArray) : Nat → Option Value
  | 0 | 1 | 2 => some (.pointer (some ⟨pL, 0, none⟩))
  | 3 => some (.map (some mL))
  | 4 => some (.string S)
  | 5 | 6 | 7 => some (.pointer (some ⟨q, 0, none⟩))
  | 8 => some (.slice A2 len c2)
  | 9 | 12 => some (.int .i64 N)
  | 10 => some (.slice A2 N c2)
  | _ => none

structure CInv (pL mL q N len c2 b7 : Nat) (A2 : Option Addr) (S : ByteArray) (W : World) (Post : Value → World → Prop) (Fin : World → Prop) (L : Array Bool) (a : Act) (w : World) : Prop where
  size : L.size = 16
  tsize : a.tmps.size = 65
  f7 : a.tmps.getD 7 undef = .pointer (some ⟨b7, 0, none⟩)
  f9 : a.tmps.getD 9 undef = .string S
  f10 : a.tmps.getD 10 undef = .pointer (some ⟨q, 0, none⟩)
  f12 : a.tmps.getD 12 undef = .int .i64 N
  vals : ∀ i v, V11 pL mL q N len c2 A2 S i = some v → L.getD i false = true → a.tmps.getD (49 + i) undef = v
  phase : (L.getD 11 false = false ∧ L.getD 13 false = false ∧ L.getD 14 false = false ∧ L.getD 15 false = false ∧ w = W) ∨
    (L.getD 11 false = true ∧ L.getD 14 false = false ∧ L.getD 15 false = false ∧ Post (a.tmps.getD 60 undef) w ∧ (L.getD 13 false = true → a.tmps.getD 62 undef = .agg #[a.tmps.getD 60 undef, .int .i64 N])) ∨
    (L.getD 11 false = true ∧ L.getD 13 false = true ∧ L.getD 14 false = true ∧ L.getD 15 false = false ∧ ∃ u w2, Post u w2 ∧ w = w2.alloc (.cells #[u, .int .i64 N] 79) ∧ a.tmps.getD 63 undef = .pointer (some ⟨w2.heap.size, 0, none⟩)) ∨
    ((∀ j, j < 16 → L.getD j false = true) ∧ Fin w)

section
variable {pL mL q N len c2 b7 : Nat} {A2 : Option Addr} {S : ByteArray} {W : World} {Post : Value → World → Prop} {Fin : World → Prop} {L : Array Bool} {a : Act} {w : World}

/-- a steady operation keeps the invariant. -/
theorem CInv.steady (h : CInv pL mL q N len c2 b7 A2 S W Post Fin L a w) {i : Nat} {v : Value} (hv : V11 pL mL q N len c2 A2 S i = some v) (hi : i < 13) (h11 : i ≠ 11) : CInv pL mL q N len c2 b7 A2 S W Post Fin (L.setIfInBounds i true) (a.put (some (49 + i)) v) w := by
  have hL : i < L.size := by rw [h.size]; omega
  have hk : 49 + i < a.tmps.size := by rw [h.tsize]; omega
  have g : ∀ j, j ≠ 49 + i → (a.put (some (49 + i)) v).tmps.getD j undef = a.tmps.getD j undef := fun j hj => by rw [put_get hk, if_neg (fun e => hj e.symm)]
  have f : ∀ j d, j ≠ i → (L.setIfInBounds i true).getD j d = L.getD j d := fun j d hj => by rw [getD_set hL, if_neg (fun e => hj e.symm)]
  refine ⟨by simp [h.size], by rw [put_size]; exact h.tsize, ?_, ?_, ?_, ?_, fun j u hu hl => ?_, ?_⟩
  · rw [g 7 (by omega)]; exact h.f7
  · rw [g 9 (by omega)]; exact h.f9
  · rw [g 10 (by omega)]; exact h.f10
  · rw [g 12 (by omega)]; exact h.f12
  · by_cases e : j = i
    · subst e
      rw [hv] at hu
      cases hu
      rw [put_get hk, if_pos rfl]
    · rw [f j _ e] at hl
      rw [g _ (by omega)]
      exact h.vals j u hu hl
  · rw [f 11 _ (fun e => h11 e.symm), f 13 _ (by omega), f 14 _ (by omega), f 15 _ (by omega), g 60 (by omega), g 62 (by omega), g 63 (by omega)]
    rcases h.phase with p | p | p | ⟨p, q⟩
    · exact .inl p
    · exact .inr (.inl p)
    · exact .inr (.inr (.inl p))
    · refine .inr (.inr (.inr ⟨fun j hj => ?_, q⟩))
      rw [getD_set hL]
      split
      · rfl
      · exact p j hj
end
end Go.Proofs.YtpdelgjfamelfaaGreat
/- VS -/
namespace Go.Proofs.YtpdelgjfamelfaaGreat
open Go.RowKit Go.Lib Go.Vfs Go.Par Go.Shelf
set_option linter.unusedVariables false

section
variable {l n : Nat} {Q : Exit → Act → World → Prop} {a : Act} {w w' : World} {K : Act → World → Prop}
theorem wpOpIn_value {ops : Array Oper} {i : Nat} {o : Oper} {v : Value} (ho : ops[i]? = some o) (hg : o.guard = none) (hnd : ∀ c, o.op ≠ .defer c) (hrun : (execOp a.eval o).run Tryz.prog w = .ok (.value v) w') (hK : K (a.put o.dst v) w') :
    wpOpIn (Fence.wide.inRound l) n Tryz.prog ops Q i K a w := by
  unfold wpOpIn
  simp only [ho]
  rw [if_pos (by simp [Region.wanted, hg])]
  refine ⟨fun _ _ => trivial, ?_⟩
  rw [show (Fence.wide.inRound l).round = some l from rfl, Oper.semAt_some l a.eval o hnd, hrun]
  exact hK
theorem wpOpIn_skip {ops : Array Oper} {i : Nat} {o : Oper} (ho : ops[i]? = some o) (hg : o.guard = none) (hnd : ∀ c, o.op ≠ .defer c) (hrun : (execOp a.eval o).run Tryz.prog w = .ok .skip w') (hK : K (a.put o.dst undef) w') :
    wpOpIn (Fence.wide.inRound l) n Tryz.prog ops Q i K a w := by
  unfold wpOpIn
  simp only [ho]
  rw [if_pos (by simp [Region.wanted, hg])]
  refine ⟨fun _ _ => trivial, ?_⟩
  rw [show (Fence.wide.inRound l).round = some l from rfl, Oper.semAt_some l a.eval o hnd, hrun]
  exact hK
theorem wpOpIn_enter {ops : Array Oper} {i : Nat} {o : Oper} {f : Nat} {args : Array Value} (ho : ops[i]? = some o) (hg : o.guard = none) (hnd : ∀ c, o.op ≠ .defer c) (hrun : (execOp a.eval o).run Tryz.prog w = .ok (.enter f args) w)
    (hC : Calls Tryz.prog f args w fun e w' => ∃ v, e = .returned v ∧ K (a.put o.dst v) w') :
    wpOpIn (Fence.wide.inRound l) n Tryz.prog ops Q i K a w := by
  unfold wpOpIn
  simp only [ho]
  rw [if_pos (by simp [Region.wanted, hg])]
  refine ⟨fun _ _ => trivial, ?_⟩
  rw [show (Fence.wide.inRound l).round = some l from rfl, Oper.semAt_some l a.eval o hnd, hrun]
  refine ⟨(fun h => by cases h), CallsIn.inRound l (callsIn_wide.2 (hC.mono fun e w' ⟨v, he, hk⟩ => ?_))⟩
  subst he
  exact hk

variable {o : Oper} {ρ : Operand → Value}
theorem run_move {x : Operand} (h : o.op = Op.move x) : (execOp ρ o).run Tryz.prog w = .ok (.value (ρ x)) w := by
  simp [execOp, h]
theorem run_nilCheck {x : Operand} {ad : Addr} (h : o.op = Op.nilCheck x) (hx : ρ x = .pointer (some ad)) : (execOp ρ o).run Tryz.prog w = .ok (.value (.pointer (some ad))) w := by
  simp [execOp, h, hx, go_sem]
theorem run_fieldFS {x : Operand} {b : Nat} (h : o.op = Op.fieldAddr 74 x 0) (hx : ρ x = .pointer (some ⟨b, 0, none⟩)) : (execOp ρ o).run Tryz.prog w = .ok (.value (.pointer (some ⟨b, 0, none⟩))) w := by
  simp [execOp, h, hx, go_sem]
theorem run_fieldFile {x : Operand} {b : Nat} (h : o.op = Op.fieldAddr 79 x 0) (hx : ρ x = .pointer (some ⟨b, 0, none⟩)) : (execOp ρ o).run Tryz.prog w = .ok (.value (.pointer (some ⟨b, 0, none⟩))) w := by
  simp [execOp, h, hx, go_sem]
theorem run_loadPFS {x : Operand} {ad : Addr} {v : Value} (h : o.op = Op.load 24 x) (hx : ρ x = .pointer (some ad)) (hc : w.cell? ad = some v) : (execOp ρ o).run Tryz.prog w = .ok (.value v) w := by
  simp [execOp, h, hx, go_sem, hc]
theorem run_loadMap {x : Operand} {ad : Addr} {v : Value} (h : o.op = Op.load 72 x) (hx : ρ x = .pointer (some ad)) (hc : w.cell? ad = some v) : (execOp ρ o).run Tryz.prog w = .ok (.value v) w := by
  simp [execOp, h, hx, go_sem, hc]
theorem run_loadBytes {x : Operand} {ad : Addr} {v : Value} (h : o.op = Op.load 22 x) (hx : ρ x = .pointer (some ad)) (hc : w.cell? ad = some v) : (execOp ρ o).run Tryz.prog w = .ok (.value v) w := by
  simp [execOp, h, hx, go_sem, hc]
theorem run_slice11 {x y : Operand} {A : Option Addr} {L c N : Nat} (h : o.op = Op.slice 22 x none (some y) none) (hx : ρ x = .slice A L c) (hy : ρ y = .int .i64 (N : Int)) (hN : N ≤ c) : (execOp ρ o).run Tryz.prog w = .ok (.value (.slice A N c)) w := by
  have hs := slice_to A L c N w hN
  simp [execOp, h, hx, hy, go_sem, hs]
theorem run_build {x y : Operand} {u v : Value} (h : o.op = Op.build 79 #[(0, x), (1, y)]) (hx : ρ x = u) (hy : ρ y = v) (hu : ∃ A n c, u = .slice A n c) (hv : ∃ k, v = .int .i64 k) : (execOp ρ o).run Tryz.prog w = .ok (.value (.agg #[u, v])) w := by
  obtain ⟨A, n, c, rfl⟩ := hu
  obtain ⟨k, rfl⟩ := hv
  simp [execOp, h, hx, hy, go_sem]
theorem run_boxFile {x : Operand} {u v : Value} (h : o.op = Op.box 79 x) (hx : ρ x = .agg #[u, v]) (hu : ∃ A n c, u = .slice A n c) (hv : ∃ k, v = .int .i64 k) : (execOp ρ o).run Tryz.prog w = .ok (.value (.pointer (some ⟨w.heap.size, 0, none⟩))) (w.alloc (.cells #[u, v] 79)) := by
  obtain ⟨A, n, c, rfl⟩ := hu
  obtain ⟨k, rfl⟩ := hv
  simp [execOp, h, hx, go_sem]
theorem run_update {m x v : Operand} {key val : Value} {b : Nat} (h : o.op = Op.mapUpdate 72 m x v) (hm : ρ m = .map (some b)) (hx : ρ x = key) (hv : ρ v = val) (hr : (Instr.mapUpdate 72 (.map (some b)) key val).run Tryz.prog w = .ok () w') : (execOp ρ o).run Tryz.prog w = .ok .skip w' := by
  simp [execOp, h, hm, hx, hv, hr]
theorem run_callClone {x : Operand} (h : o.op = Op.call { callee := .value (.func 44), args := #[x], argTypes := #[22] }) (hf : ρ (.func 44) = .func (.func 44) #[] #[]) : (execOp ρ o).run Tryz.prog w = .ok (.enter 44 #[ρ x]) w := by
  simp [execOp, h, hf, go_sem]
end
end Go.Proofs.YtpdelgjfamelfaaGreat
/- VT -/
namespace Go.Proofs.YtpdelgjfamelfaaGreat
open Go.RowKit Go.Lib Go.Vfs Go.Par Go.Shelf
set_option linter.unusedVariables false

theorem deps11 : (List.range 16).all (fun i => match ops11[i]? with | some o => o.after.toList.all (fun e => !(Region.binds .any e) || decide (e.on < i)) | none => false) = true := by kernel_rfl
theorem all_listed {L : Array Bool} (hs : L.size = 16) (hr : Region.ready .any ops11 L = []) : ∀ m i, i < m → i < 16 → L.getD i false = true
  | 0, i, h, _ => by omega
  | m + 1, i, hm, hi => by
    cases hl : L.getD i false with
    | true => rfl
    | false =>
      exfalso
      have hd := List.all_eq_true.1 deps11 i (List.mem_range.2 hi)
      cases ho : ops11[i]? with
      | none => rw [ho] at hd; cases hd
      | some o =>
        rw [ho] at hd
        have : i ∈ Region.ready .any ops11 L := mem_ready.2 ⟨getD_in (by omega) hl, o, ho, fun e he hb => by
          have h1 := List.all_eq_true.1 hd e (by simpa using he)
          rw [hb] at h1
          have h2 : e.on < i := by simpa using h1
          exact all_listed hs hr m e.on (by omega) (by omega)⟩
        rw [hr] at this
        cases this

section
variable {pL mL q N len c2 b7 : Nat} {A2 : Option Addr} {S : ByteArray} {W : World} {Post : Value → World → Prop} {Fin : World → Prop} {Q : Exit → Act → World → Prop} {l n : Nat}

theorem step11 (hb7 : W.cell? ⟨b7, 0, none⟩ = some (.pointer (some ⟨pL, 0, none⟩))) (hpL : W.cell? ⟨pL, 0, none⟩ = some (.map (some mL))) (hq : W.cell? ⟨q, 0, none⟩ = some (.slice A2 len c2)) (hN : N ≤ c2)
    (hkeep : ∀ u w, Post u w → w.cell? ⟨b7, 0, none⟩ = some (.pointer (some ⟨pL, 0, none⟩)) ∧ w.cell? ⟨pL, 0, none⟩ = some (.map (some mL)) ∧ w.cell? ⟨q, 0, none⟩ = some (.slice A2 len c2) ∧ ∃ A n c, u = .slice A n c)
    (hclone : Calls Tryz.prog 44 #[.slice A2 N c2] W fun e w' => ∃ u, e = .returned u ∧ Post u w')
    (hupd : ∀ u w2, Post u w2 → ∃ w3, (Instr.mapUpdate 72 (.map (some mL)) (.string S) (.pointer (some ⟨w2.heap.size, 0, none⟩))).run Tryz.prog (w2.alloc (.cells #[u, .int .i64 N] 79)) = .ok () w3 ∧ Fin w3)
    {L : Array Bool} {a : Act} {w : World} (h : CInv pL mL q N len c2 b7 A2 S W Post Fin L a w) (i : Nat) (hi : i ∈ Region.ready .any ops11 L) :
    wpOpIn (Fence.wide.inRound l) n Tryz.prog ops11 Q i (fun a' w' => CInv pL mL q N len c2 b7 A2 S W Post Fin (L.setIfInBounds i true) a' w') a w := by
  have hun := (mem_ready.1 hi).1
  have hlt : i < 16 := by
    obtain ⟨_, o, ho, _⟩ := mem_ready.1 hi
    rw [← size11]
    exact (Array.getElem?_eq_some_iff.1 ho).1
  have hunf : L.getD i false = false := getD_both hun
  have hn15 : ¬ (∀ j, j < 16 → L.getD j false = true) := fun hall => by rw [hall i hlt] at hunf; cases hunf
  have hcell : True → w.cell? ⟨b7, 0, none⟩ = some (.pointer (some ⟨pL, 0, none⟩)) ∧ w.cell? ⟨pL, 0, none⟩ = some (.map (some mL)) ∧ w.cell? ⟨q, 0, none⟩ = some (.slice A2 len c2) := fun _ => by
    rcases h.phase with ⟨_, _, _, _, rfl⟩ | ⟨_, _, _, hp, _⟩ | ⟨_, _, _, _, u, w2, hp, rfl, _⟩ | ⟨hall, _⟩
    · exact ⟨hb7, hpL, hq⟩
    · exact ⟨(hkeep _ _ hp).1, (hkeep _ _ hp).2.1, (hkeep _ _ hp).2.2.1⟩
    · exact ⟨box_old (hkeep _ _ hp).1, box_old (hkeep _ _ hp).2.1, box_old (hkeep _ _ hp).2.2.1⟩
    · exact absurd hall hn15
  have hf15 : True := trivial
  have hL : i < L.size := by rw [h.size]; exact hlt
  have f : ∀ j d, j ≠ i → (L.setIfInBounds i true).getD j d = L.getD j d := fun j d hj => by rw [getD_set hL, if_neg (fun e => hj e.symm)]
  have fi : ∀ d, (L.setIfInBounds i true).getD i d = true := fun d => by rw [getD_set hL, if_pos rfl]
  rcases (show i = 0 ∨ i = 1 ∨ i = 2 ∨ i = 3 ∨ i = 4 ∨ i = 5 ∨ i = 6 ∨ i = 7 ∨ i = 8 ∨ i = 9 ∨ i = 10 ∨ i = 11 ∨ i = 12 ∨ i = 13 ∨ i = 14 ∨ i = 15 by omega) with rfl | rfl | rfl | rfl | rfl | rfl | rfl | rfl | rfl | rfl | rfl | rfl | rfl | rfl | rfl | rfl
  · obtain ⟨o, ho, hd, hop, hg, hdep⟩ := at11 o11_0
    have hnd : ∀ c, o.op ≠ .defer c := fun c e => by rw [hop] at e; cases e
    refine wpOpIn_value ho hg hnd (run_loadPFS hop h.f7 (hcell hf15).1) ?_
    rw [hd]
    exact h.steady (i := 0) rfl (by omega) (by omega)
  · obtain ⟨o, ho, hd, hop, hg, hdep⟩ := at11 o11_1
    have hnd : ∀ c, o.op ≠ .defer c := fun c e => by rw [hop] at e; cases e
    refine wpOpIn_value ho hg hnd (run_nilCheck hop (h.vals 0 _ rfl (hdep L hi 0 (by simp)))) ?_
    rw [hd]
    exact h.steady (i := 1) rfl (by omega) (by omega)
  · obtain ⟨o, ho, hd, hop, hg, hdep⟩ := at11 o11_2
    have hnd : ∀ c, o.op ≠ .defer c := fun c e => by rw [hop] at e; cases e
    refine wpOpIn_value ho hg hnd (run_fieldFS hop (h.vals 1 _ rfl (hdep L hi 1 (by simp)))) ?_
    rw [hd]
    exact h.steady (i := 2) rfl (by omega) (by omega)
  · obtain ⟨o, ho, hd, hop, hg, hdep⟩ := at11 o11_3
    have hnd : ∀ c, o.op ≠ .defer c := fun c e => by rw [hop] at e; cases e
    refine wpOpIn_value ho hg hnd (run_loadMap hop (h.vals 2 _ rfl (hdep L hi 2 (by simp))) (hcell hf15).2.1) ?_
    rw [hd]
    exact h.steady (i := 3) rfl (by omega) (by omega)
  · obtain ⟨o, ho, hd, hop, hg, hdep⟩ := at11 o11_4
    have hnd : ∀ c, o.op ≠ .defer c := fun c e => by rw [hop] at e; cases e
    refine wpOpIn_value ho hg hnd ((run_move hop).trans (by rw [show a.eval (.tmp 9) = .string S from h.f9])) ?_
    rw [hd]
    exact h.steady (i := 4) rfl (by omega) (by omega)
  · obtain ⟨o, ho, hd, hop, hg, hdep⟩ := at11 o11_5
    have hnd : ∀ c, o.op ≠ .defer c := fun c e => by rw [hop] at e; cases e
    refine wpOpIn_value ho hg hnd ((run_move hop).trans (by rw [show a.eval (.tmp 10) = .pointer (some ⟨q, 0, none⟩) from h.f10])) ?_
    rw [hd]
    exact h.steady (i := 5) rfl (by omega) (by omega)
  · obtain ⟨o, ho, hd, hop, hg, hdep⟩ := at11 o11_6
    have hnd : ∀ c, o.op ≠ .defer c := fun c e => by rw [hop] at e; cases e
    refine wpOpIn_value ho hg hnd (run_nilCheck hop (h.vals 5 _ rfl (hdep L hi 5 (by simp)))) ?_
    rw [hd]
    exact h.steady (i := 6) rfl (by omega) (by omega)
  · obtain ⟨o, ho, hd, hop, hg, hdep⟩ := at11 o11_7
    have hnd : ∀ c, o.op ≠ .defer c := fun c e => by rw [hop] at e; cases e
    refine wpOpIn_value ho hg hnd (run_fieldFile hop (h.vals 6 _ rfl (hdep L hi 6 (by simp)))) ?_
    rw [hd]
    exact h.steady (i := 7) rfl (by omega) (by omega)
  · obtain ⟨o, ho, hd, hop, hg, hdep⟩ := at11 o11_8
    have hnd : ∀ c, o.op ≠ .defer c := fun c e => by rw [hop] at e; cases e
    have hq' : w.cell? ⟨q, 0, none⟩ = some (.slice A2 len c2) := (hcell hf15).2.2
    refine wpOpIn_value ho hg hnd (run_loadBytes hop (h.vals 7 _ rfl (hdep L hi 7 (by simp))) hq') ?_
    rw [hd]
    exact h.steady (i := 8) rfl (by omega) (by omega)
  · obtain ⟨o, ho, hd, hop, hg, hdep⟩ := at11 o11_9
    have hnd : ∀ c, o.op ≠ .defer c := fun c e => by rw [hop] at e; cases e
    refine wpOpIn_value ho hg hnd ((run_move hop).trans (by rw [show a.eval (.tmp 12) = .int .i64 N from h.f12])) ?_
    rw [hd]
    exact h.steady (i := 9) rfl (by omega) (by omega)
  · obtain ⟨o, ho, hd, hop, hg, hdep⟩ := at11 o11_10
    have hnd : ∀ c, o.op ≠ .defer c := fun c e => by rw [hop] at e; cases e
    refine wpOpIn_value ho hg hnd (run_slice11 hop (h.vals 8 _ rfl (hdep L hi 8 (by simp))) (h.vals 9 _ rfl (hdep L hi 9 (by simp))) hN) ?_
    rw [hd]
    exact h.steady (i := 10) rfl (by omega) (by omega)
  · obtain ⟨o, ho, hd, hop, hg, hdep⟩ := at11 o11_11
    have hnd : ∀ c, o.op ≠ .defer c := fun c e => by rw [hop] at e; cases e
    have hk : 60 < a.tmps.size := by rw [h.tsize]; omega
    have g : ∀ (v : Value) j, j ≠ 60 → (a.put (some 60) v).tmps.getD j undef = a.tmps.getD j undef := fun v j hj => by rw [put_get hk, if_neg (fun e => hj e.symm)]
    have gi : ∀ v : Value, (a.put (some 60) v).tmps.getD 60 undef = v := fun v => by rw [put_get hk, if_pos rfl]
    have hph : L.getD 13 false = false ∧ L.getD 14 false = false ∧ L.getD 15 false = false ∧ w = W := by
      rcases h.phase with ⟨_, p1, p2, p3, p4⟩ | ⟨p, _⟩ | ⟨p, _⟩ | ⟨hall, _⟩
      · exact ⟨p1, p2, p3, p4⟩
      · rw [p] at hunf; cases hunf
      · rw [p] at hunf; cases hunf
      · exact absurd hall hn15
    obtain ⟨p13, p14, p15, rfl⟩ := hph
    refine wpOpIn_enter ho hg hnd (run_callClone hop rfl) ?_
    rw [show a.eval (.tmp 59) = .slice A2 N c2 from h.vals 10 _ rfl (hdep L hi 10 (by simp))]
    refine hclone.mono ?_
    rintro e w1 ⟨u, rfl, hp⟩
    refine ⟨u, rfl, ?_⟩
    rw [hd]
    refine ⟨by simp [h.size], by rw [put_size]; exact h.tsize, by rw [g _ 7 (by omega)]; exact h.f7, by rw [g _ 9 (by omega)]; exact h.f9, by rw [g _ 10 (by omega)]; exact h.f10, by rw [g _ 12 (by omega)]; exact h.f12, fun j v hv hl => by
      have hj : j ≠ 11 := fun e => by subst e; cases hv
      have hj2 : j < 13 := by
        rcases Nat.lt_or_ge j 13 with hx | hx
        · exact hx
        · exfalso
          unfold V11 at hv
          split at hv <;> first | omega | cases hv
      rw [f j _ hj] at hl
      rw [g _ _ (by omega)]
      exact h.vals j v hv hl, .inr (.inl ⟨fi _, by rw [f 14 _ (by omega)]; exact p14, by rw [f 15 _ (by omega)]; exact p15, by rw [gi]; exact hp, fun h13 => by rw [f 13 _ (by omega), p13] at h13; cases h13⟩)⟩
  · obtain ⟨o, ho, hd, hop, hg, hdep⟩ := at11 o11_12
    have hnd : ∀ c, o.op ≠ .defer c := fun c e => by rw [hop] at e; cases e
    refine wpOpIn_value ho hg hnd ((run_move hop).trans (by rw [show a.eval (.tmp 12) = .int .i64 N from h.f12])) ?_
    rw [hd]
    exact h.steady (i := 12) rfl (by omega) (by omega)
  · obtain ⟨o, ho, hd, hop, hg, hdep⟩ := at11 o11_13
    have hnd : ∀ c, o.op ≠ .defer c := fun c e => by rw [hop] at e; cases e
    have hk : 62 < a.tmps.size := by rw [h.tsize]; omega
    have g : ∀ (v : Value) j, j ≠ 62 → (a.put (some 62) v).tmps.getD j undef = a.tmps.getD j undef := fun v j hj => by rw [put_get hk, if_neg (fun e => hj e.symm)]
    have gi : ∀ v : Value, (a.put (some 62) v).tmps.getD 62 undef = v := fun v => by rw [put_get hk, if_pos rfl]
    have hph : L.getD 14 false = false ∧ L.getD 15 false = false ∧ Post (a.tmps.getD 60 undef) w := by
      rcases h.phase with ⟨p, _⟩ | ⟨_, p2, p3, p4, _⟩ | ⟨_, p, _⟩ | ⟨hall, _⟩
      · rw [hdep L hi 11 (by simp)] at p; cases p
      · exact ⟨p2, p3, p4⟩
      · rw [p] at hunf; cases hunf
      · exact absurd hall hn15
    obtain ⟨p14, p15, hp⟩ := hph
    refine wpOpIn_value ho hg hnd (run_build hop (u := a.tmps.getD 60 undef) (v := .int .i64 N) rfl (h.vals 12 _ rfl (hdep L hi 12 (by simp))) (hkeep _ _ hp).2.2.2 ⟨_, rfl⟩) ?_
    rw [hd]
    refine ⟨by simp [h.size], by rw [put_size]; exact h.tsize, by rw [g _ 7 (by omega)]; exact h.f7, by rw [g _ 9 (by omega)]; exact h.f9, by rw [g _ 10 (by omega)]; exact h.f10, by rw [g _ 12 (by omega)]; exact h.f12, fun j v hv hl => by
      have hj : j ≠ 13 := fun e => by subst e; cases hv
      have hj2 : j < 13 := by
        rcases Nat.lt_or_ge j 13 with hx | hx
        · exact hx
        · exfalso
          unfold V11 at hv
          split at hv <;> first | omega | cases hv
      rw [f j _ hj] at hl
      rw [g _ _ (by omega)]
      exact h.vals j v hv hl, .inr (.inl ⟨by rw [f 11 _ (by omega)]; exact hdep L hi 11 (by simp), by rw [f 14 _ (by omega)]; exact p14, by rw [f 15 _ (by omega)]; exact p15, by rw [g _ 60 (by omega)]; exact hp, fun _ => by rw [gi, g _ 60 (by omega)]⟩)⟩
  · obtain ⟨o, ho, hd, hop, hg, hdep⟩ := at11 o11_14
    have hnd : ∀ c, o.op ≠ .defer c := fun c e => by rw [hop] at e; cases e
    have hk : 63 < a.tmps.size := by rw [h.tsize]; omega
    have g : ∀ (v : Value) j, j ≠ 63 → (a.put (some 63) v).tmps.getD j undef = a.tmps.getD j undef := fun v j hj => by rw [put_get hk, if_neg (fun e => hj e.symm)]
    have gi : ∀ v : Value, (a.put (some 63) v).tmps.getD 63 undef = v := fun v => by rw [put_get hk, if_pos rfl]
    have h13 := hdep L hi 13 (by simp)
    have hph : L.getD 11 false = true ∧ L.getD 15 false = false ∧ Post (a.tmps.getD 60 undef) w ∧ a.tmps.getD 62 undef = .agg #[a.tmps.getD 60 undef, .int .i64 N] := by
      rcases h.phase with ⟨_, p, _⟩ | ⟨p1, p2, p3, p4, p5⟩ | ⟨_, _, p, _⟩ | ⟨hall, _⟩
      · rw [h13] at p; cases p
      · exact ⟨p1, p3, p4, p5 h13⟩
      · rw [p] at hunf; cases hunf
      · exact absurd hall hn15
    obtain ⟨p11, p15, hp, h62⟩ := hph
    refine wpOpIn_value ho hg hnd (run_boxFile hop h62 (hkeep _ _ hp).2.2.2 ⟨_, rfl⟩) ?_
    rw [hd]
    refine ⟨by simp [h.size], by rw [put_size]; exact h.tsize, by rw [g _ 7 (by omega)]; exact h.f7, by rw [g _ 9 (by omega)]; exact h.f9, by rw [g _ 10 (by omega)]; exact h.f10, by rw [g _ 12 (by omega)]; exact h.f12, fun j v hv hl => by
      have hj : j ≠ 14 := fun e => by subst e; cases hv
      have hj2 : j < 13 := by
        rcases Nat.lt_or_ge j 13 with hx | hx
        · exact hx
        · exfalso
          unfold V11 at hv
          split at hv <;> first | omega | cases hv
      rw [f j _ hj] at hl
      rw [g _ _ (by omega)]
      exact h.vals j v hv hl, .inr (.inr (.inl ⟨by rw [f 11 _ (by omega)]; exact p11, by rw [f 13 _ (by omega)]; exact h13, fi _, by rw [f 15 _ (by omega)]; exact p15, _, w, hp, rfl, gi _⟩))⟩
  · obtain ⟨o, ho, hd, hop, hg, hdep⟩ := at11 o11_15
    have hnd : ∀ c, o.op ≠ .defer c := fun c e => by rw [hop] at e; cases e
    have h14 := hdep L hi 14 (by simp)
    have hph : ∃ u w2, Post u w2 ∧ w = w2.alloc (.cells #[u, .int .i64 N] 79) ∧ a.tmps.getD 63 undef = .pointer (some ⟨w2.heap.size, 0, none⟩) := by
      rcases h.phase with ⟨_, _, p, _⟩ | ⟨_, p, _⟩ | ⟨_, _, _, _, p⟩ | ⟨hall, _⟩
      · rw [h14] at p; cases p
      · rw [h14] at p; cases p
      · exact p
      · exact absurd hall hn15
    obtain ⟨u, w2, hp, rfl, h63⟩ := hph
    obtain ⟨w3, hrun, hfin⟩ := hupd u w2 hp
    refine wpOpIn_skip ho hg hnd (run_update hop (h.vals 3 _ rfl (hdep L hi 3 (by simp))) (h.vals 4 _ rfl (hdep L hi 4 (by simp))) h63 hrun) ?_
    rw [hd]
    refine ⟨by simp [h.size], h.tsize, h.f7, h.f9, h.f10, h.f12, fun j v hv hl => ?_, .inr (.inr (.inr ⟨fun j hj => ?_, hfin⟩))⟩
    · have hj : j ≠ 15 := fun e => by subst e; cases hv
      rw [f j _ hj] at hl
      exact h.vals j v hv hl
    · by_cases e : j = 15
      · subst e; exact fi _
      · rw [f j _ e]
        refine hdep L hi j ?_
        have : j = 0 ∨ j = 1 ∨ j = 2 ∨ j = 3 ∨ j = 4 ∨ j = 5 ∨ j = 6 ∨ j = 7 ∨ j = 8 ∨ j = 9 ∨ j = 10 ∨ j = 11 ∨ j = 12 ∨ j = 13 ∨ j = 14 := by omega
        simp
        omega
end
end Go.Proofs.YtpdelgjfamelfaaGreat
/- VU -/
namespace Go.Proofs.YtpdelgjfamelfaaGreat
open Go.RowKit Go.Lib Go.Vfs Go.Par Go.Shelf
set_option linter.unusedVariables false

section
variable {pL mL q N len c2 b7 : Nat} {A2 : Option Addr} {S : ByteArray} {W : World} {Post : Value → World → Prop} {Fin : World → Prop} {Q : Exit → Act → World → Prop} {l n : Nat}
/-- the whole region. -/
theorem region11 (hb7 : W.cell? ⟨b7, 0, none⟩ = some (.pointer (some ⟨pL, 0, none⟩))) (hpL : W.cell? ⟨pL, 0, none⟩ = some (.map (some mL))) (hq : W.cell? ⟨q, 0, none⟩ = some (.slice A2 len c2)) (hN : N ≤ c2)
    (hkeep : ∀ u w, Post u w → w.cell? ⟨b7, 0, none⟩ = some (.pointer (some ⟨pL, 0, none⟩)) ∧ w.cell? ⟨pL, 0, none⟩ = some (.map (some mL)) ∧ w.cell? ⟨q, 0, none⟩ = some (.slice A2 len c2) ∧ ∃ A n c, u = .slice A n c)
    (hclone : Calls Tryz.prog 44 #[.slice A2 N c2] W.drew fun e w' => ∃ u, e = .returned u ∧ Post u w')
    (hupd : ∀ u w2, Post u w2 → ∃ w3, (Instr.mapUpdate 72 (.map (some mL)) (.string S) (.pointer (some ⟨w2.heap.size, 0, none⟩))).run Tryz.prog (w2.alloc (.cells #[u, .int .i64 N] 79)) = .ok () w3 ∧ Fin w3)
    (hQ : ∀ a w, Fin w → Q .normal a w)
    (a : Act) (hs : a.tmps.size = 65) (f7 : a.tmps.getD 7 undef = .pointer (some ⟨b7, 0, none⟩)) (f9 : a.tmps.getD 9 undef = .string S) (f10 : a.tmps.getD 10 undef = .pointer (some ⟨q, 0, none⟩)) (f12 : a.tmps.getD 12 undef = .int .i64 N) :
    (Code.region 11 ops11 true).wpIn (Fence.wide.inRound l) n Tryz.prog Q a W := by
  refine wpIn_region_any (by kernel_rfl) ?_
  refine wpAnyIn_inv (CInv pL mL q N len c2 b7 A2 S W.drew Post Fin) (fun L a w h => by rw [h.size, size11]) (fun L a w h hr => ?_) (fun L a w h i hi => step11 (W := W.drew) hb7 hpL hq hN hkeep hclone hupd h i hi) _ _ _ _ ?_ ?_
  · have hall := all_listed h.size hr 16
    rcases h.phase with ⟨p, _⟩ | ⟨_, p, _⟩ | ⟨_, _, _, p, _⟩ | ⟨_, hf⟩
    · rw [hall 11 (by omega) (by omega)] at p; cases p
    · rw [hall 14 (by omega) (by omega)] at p; cases p
    · rw [hall 15 (by omega) (by omega)] at p; cases p
    · exact hQ _ _ hf
  · rw [size11]; decide
  · have hrep : ∀ j, (Array.replicate ops11.size false).getD j false = false := fun j => getD_replicate_false _ j
    refine ⟨by rw [Array.size_replicate, size11], hs, f7, f9, f10, f12, fun i v _ hl => ?_, .inl ⟨hrep _, hrep _, hrep _, hrep _, rfl⟩⟩
    rw [hrep] at hl; cases hl
end

/- what a loss of power leaves. -/
def cutK (keeps : List Int) (i : Nat) : Int := if keeps.length = 0 then 0 else keeps.getD (i % keeps.length) 0
def cutN (k : Int) (f : File) : Nat := f.safe + min k.toNat (f.data.length - f.safe)
def crashF (keeps : List Int) (i : Nat) (f : File) : File := ⟨f.name, f.data.take (cutN (cutK keeps i) f), cutN (cutK keeps i) f⟩
def crashL (keeps : List Int) : Nat → List File → List File
  | _, [] => []
  | i, f :: fs => crashF keeps i f :: crashL keeps (i + 1) fs
theorem crashL_snoc (keeps : List Int) (x : File) : ∀ (l : List File) (i : Nat), crashL keeps i (l ++ [x]) = crashL keeps i l ++ [crashF keeps (i + l.length) x]
  | [], i => by simp [crashL]
  | f :: l, i => by
    rw [List.cons_append, crashL, crashL_snoc keeps x l (i + 1), crashL]
    simp [Nat.add_assoc, Nat.add_comm 1]
theorem crashL_names (keeps : List Int) : ∀ (l : List File) (i : Nat), (crashL keeps i l).map File.name = l.map File.name
  | [], _ => rfl
  | f :: l, i => by rw [crashL, List.map_cons, List.map_cons, crashL_names keeps l (i + 1)]; rfl
theorem crashL_length (keeps : List Int) (l : List File) (i : Nat) : (crashL keeps i l).length = l.length := by
  have := congrArg List.length (crashL_names keeps l i)
  simpa using this
/-- the files as the loop puts them. -/
def crashW (keeps : List Int) (l : List File) : List File := (crashL keeps 0 l).foldl (fun acc f => withL File.name f acc) []
theorem crashW_snoc (keeps : List Int) (l : List File) (x : File) : crashW keeps (l ++ [x]) = withL File.name (crashF keeps l.length x) (crashW keeps l) := by
  unfold crashW
  rw [crashL_snoc, List.foldl_append]
  simp
theorem withL_last {α : Type} {key : α → List UInt8} {x : α} : ∀ {l : List α}, (∀ y ∈ l, bytesBefore (key y) (key x) = true) → withL key x l = l ++ [x]
  | [], _ => rfl
  | y :: l, h => by
    have hy := h y (by simp)
    have hne : (key y == key x) = false := beq_eq_false_iff_ne.2 fun e => by rw [e, before_irrefl] at hy; cases hy
    have ih := withL_last (l := l) (fun z hz => h z (by simp [hz]))
    unfold withL at ih ⊢
    have hd : dropL key (key x) (y :: l) = y :: dropL key (key x) l := by unfold dropL; rw [List.filter_cons, hne]; rfl
    rw [hd]
    unfold putL
    rw [before_asymm hy, if_neg (by simp), ih]
    rfl
theorem fold_rising {α : Type} {key : α → List UInt8} : ∀ (rest acc : List α), Rising key (acc ++ rest) → rest.foldl (fun a f => withL key f a) acc = acc ++ rest
  | [], acc, _ => by simp
  | x :: rest, acc, h => by
    rw [List.foldl_cons, withL_last (fun y hy => by
      have := List.pairwise_append.1 h
      exact this.2.2 y hy x (by simp)), fold_rising rest (acc ++ [x]) (by simpa using h)]
    simp
theorem crashW_rising (keeps : List Int) {l : List File} (h : Rising File.name l) : crashW keeps l = crashL keeps 0 l := by
  unfold crashW
  have hr : Rising File.name (crashL keeps 0 l) := by
    have h1 : (l.map File.name).Pairwise (fun a b => bytesBefore a b = true) := List.pairwise_map.2 h
    rw [← crashL_names keeps l 0] at h1
    exact List.pairwise_map.1 h1
  have := fold_rising (key := File.name) (crashL keeps 0 l) [] (by simpa using hr)
  simpa using this
theorem length_putL {α : Type} {key : α → List UInt8} (x : α) : ∀ l : List α, (putL key x l).length = l.length + 1
  | [] => rfl
  | y :: l => by
    unfold putL
    split
    · rfl
    · simp [length_putL x l]
theorem length_withL {α : Type} {key : α → List UInt8} (x : α) (l : List α) : (withL key x l).length ≤ l.length + 1 := by
  unfold withL
  rw [length_putL]
  have : (dropL key (key x) l).length ≤ l.length := List.length_filter_le _ _
  omega
theorem crashW_length (keeps : List Int) (l : List File) : (crashW keeps l).length ≤ l.length := by
  have key : ∀ (fs acc : List File), (fs.foldl (fun a f => withL File.name f a) acc).length ≤ acc.length + fs.length := by
    intro fs
    induction fs with
    | nil => intro acc; simp
    | cons f fs ih =>
      intro acc
      rw [List.foldl_cons]
      have h1 := ih (withL File.name f acc)
      have h2 := length_withL (key := File.name) f acc
      simp
      omega
  have := key (crashL keeps 0 l) []
  rw [crashL_length] at this
  simpa [crashW] using this
def stCrash (st : St) (keeps : List Int) (power : Int) : St := ⟨power, crashL keeps 0 st.files⟩

/-- a new file with bytes of its own, in the map. -/
theorem FSAt.fresh2 {W V w3 : World} {p : Nat} {pow : Int} {ys : List FileR} {mb n : Nat} (h : FSAt W p pow ys mb) (x' : FileR) (hf : FileAt w3 x') (hne : x'.v.ownBlock ≠ some x'.q)
    (hmap : w3.ownsMap Tryz.prog 9 ptrElem mb n ((dat ys).put (.string x'.f.name) (.lit (.int .i64 x'.q)))) (hb : Below W.heap.size W V) (hg : V.grownBy w3 (some mb)) (hq : ∀ k ∈ blocksR x', W.heap.size ≤ k) :
    FSAt w3 p pow (withL keyR x' ys) mb := by
  have hk3 : ∀ k, k < W.heap.size → k ≠ mb → w3.heap[k]? = W.heap[k]? := fun k hk hne => (hg.block k (Nat.lt_of_lt_of_le hk hb.size) (fun e => hne (by cases e; rfl))).trans (hb.block k hk)
  have hml := h.map.lt
  have hpl := lt_of_block h.head
  refine h.put x' hf hne (n := n) (by rw [← dat_put]; exact hmap) (hk3 p hpl h.pm) (fun y hy _ k hk => hk3 k ((h.files y hy).lt k hk) (fun e => (h.pf y hy).2.1 (e ▸ hk))) (fun k hk => ?_)
  have := hq k hk
  exact ⟨by omega, by omega, fun y hy _ hky => by have := (h.files y hy).lt k hky; omega⟩
end Go.Proofs.YtpdelgjfamelfaaGreat
/- VW -/
namespace Go.Proofs.YtpdelgjfamelfaaGreat
open Go.RowKit Go.Lib Go.Vfs Go.Par Go.Shelf
set_option linter.unusedVariables false

/-- what the loop of Crash owns: its counter, the new map. -/
def ExC (b m : Nat) (_ : World) (k : Nat) : Prop := k = b ∨ k = m

/-- what lies between two rounds: the boxes, the file system so far. -/
structure CrashI (w : World) (power : Int) (keeps : List Int) (kv : Value) (cnt : Nat) (fs : List File) (W : World) : Prop where
  b4 : Boxed W w.heap.size 57 kv
  b7 : Boxed W (w.heap.size + 1 + 1 + 1) 24 (.pointer (some ⟨w.heap.size + 1 + 1, 0, none⟩))
  b8 : Boxed W (w.heap.size + 1 + 1 + 1 + 1) 3 (.int .i64 cnt)
  fs : ∃ ys, ys.map (·.f) = crashW keeps fs ∧ FSAt W (w.heap.size + 1 + 1) power ys (w.heap.size + 1) ∧ ∀ y ∈ ys, ∀ k ∈ blocksR y, w.heap.size + 6 ≤ k
  below : Below w.heap.size w W
  size : w.heap.size + 6 ≤ W.heap.size

theorem cutN_le (k : Int) (f : File) (h : f.safe ≤ f.data.length) : cutN k f ≤ f.data.length := by unfold cutN; omega

/-- a round's last statement. -/
theorem crash_put {w V w2 w3 : World} {power : Int} {keeps : List Int} {kv u : Value} {cnt m : Nat} {fs : List File} {f : File} (hI : CrashI w power keeps kv cnt fs V) (hsafe : f.safe ≤ f.data.length) {N : Nat} (hN : N = cutN (cutK keeps fs.length) f)
    (hown : Par.Own w2 V.heap.size 5 u (byteCells (f.data.take N))) (hb2 : Below V.heap.size V w2) {ys : List FileR} (hys : ys.map (·.f) = crashW keeps fs) (hat : FSAt V (w.heap.size + 1 + 1) power ys (w.heap.size + 1)) (hyb : ∀ y ∈ ys, ∀ k ∈ blocksR y, w.heap.size + 6 ≤ k)
    (hmap : w3.ownsMap Tryz.prog 9 ptrElem (w.heap.size + 1) m ((dat ys).put (.string f.name) (.lit (.int .i64 w2.heap.size)))) (hg : (w2.alloc (.cells #[u, .int .i64 N] 79)).grownBy w3 (some (w.heap.size + 1))) :
    CrashI w power keeps kv cnt (fs ++ [f]) w3 ∧ KeepsFrom (w.heap.size + 6) V w3 ∧ KpE (w.heap.size + 6) (ExC (w.heap.size + 1 + 1 + 1 + 1) (w.heap.size + 1)) V w3 := by
  have hz := hI.size
  have hz2 := hb2.size
  have hb3 : Below V.heap.size V (w2.alloc (.cells #[u, .int .i64 N] 79)) := hb2.alloc hz2 _
  have hsz3 : w2.heap.size + 1 ≤ w3.heap.size := by have := hg.size; simpa using this
  have same : ∀ k, k < V.heap.size → k ≠ w.heap.size + 1 → w3.heap[k]? = V.heap[k]? := fun k hk hne => (hg.block k (by simp; omega) (fun e => hne (by cases e; rfl))).trans (hb3.block k hk)
  have hNl : N ≤ f.data.length := by rw [hN]; exact cutN_le _ _ hsafe
  have hlt := hown.lt
  have hq3 : w3.heap[w2.heap.size]? = some (.cells #[u, .int .i64 N] 79 (0, 0)) := by
    rw [hg.block _ (by simp) (fun e => by have := Option.some.inj e; omega)]
    exact heap_alloc_new w2 _
  have hrow3 : w3.ownsRow 0 5 1 u (f.data.take N).length (byteCells (f.data.take N)) := by
    have h1 : w2.ownsRow V.heap.size 5 1 u (f.data.take N).length (byteCells (f.data.take N)) := by
      have := hown
      unfold Par.Own at this
      rwa [byteCells_length] at this
    refine ownsRow_block (ownsRow_base0 h1) (fun g hg' => ?_)
    obtain ⟨h2, h3⟩ := hlt g hg'
    rw [hg.block g (by simp; omega) (fun e => by have := Option.some.inj e; omega), Below.heap_alloc _ _ _ h3]
  have hx' : crashF keeps fs.length f = ⟨f.name, f.data.take N, N⟩ := by unfold crashF; rw [hN]
  have hub : ∀ k ∈ blocksR ⟨⟨f.name, f.data.take N, N⟩, w2.heap.size, u⟩, V.heap.size ≤ k := by
    intro k hk
    unfold blocksR at hk
    rcases List.mem_cons.1 hk with rfl | hk
    · exact hz2
    · exact (hlt k (by simpa using hk)).1
  have hat3 := hat.fresh2 ⟨⟨f.name, f.data.take N, N⟩, w2.heap.size, u⟩ ⟨hq3, hrow3, by simp; omega⟩ (fun e => by have := (hlt w2.heap.size e).2; omega) hmap hb3 hg hub
  refine ⟨⟨(same _ (by omega) (by omega)).trans hI.b4, (same _ (by omega) (by omega)).trans hI.b7, (same _ (by omega) (by omega)).trans hI.b8, ⟨_, ?_, hat3, fun y hy k hk => ?_⟩, ?_, by omega⟩, ⟨by omega, fun k o hB hk _ => ?_⟩, ⟨by omega, fun k o hk _ hn => ?_, fun k hk => .inl hk⟩⟩
  · rw [map_withL (key := keyR) (key' := File.name) FileR.f (fun _ => rfl), hys, crashW_snoc, hx']
  · rcases mem_withL.1 hy with rfl | ⟨h1, _⟩
    · have := hub k hk; omega
    · exact hyb y h1 k hk
  · exact (hI.below.trans ((hb3.mono (by omega)))).grown hg (by simp; omega) (fun k e => by cases e; omega)
  · rw [same k (lt_of_block hk) (by omega)]; exact hk
  · rw [same k (lt_of_block hk) (fun e => hn (.inr e))]; exact hk

theorem CrashI.drewN {w V : World} {power : Int} {keeps : List Int} {kv : Value} {cnt : Nat} {fs : List File} (h : CrashI w power keeps kv cnt fs V) (n : Nat) : CrashI w power keeps kv cnt fs (V.drewN n) :=
  ⟨h.b4, h.b7, h.b8, by obtain ⟨ys, h1, h2, h3⟩ := h.fs; exact ⟨ys, h1, h2.drewN n, h3⟩, below_drewN h.below n, h.size⟩

/-- the counter goes up. -/
theorem CrashI.count {w V : World} {power : Int} {keeps : List Int} {kv : Value} {cnt : Nat} {fs : List File} (h : CrashI w power keeps kv cnt fs V) (cnt' : Nat) :
    CrashI w power keeps kv cnt' fs (V.setCell ⟨w.heap.size + 1 + 1 + 1 + 1, 0, none⟩ (.int .i64 cnt')) ∧ KeepsFrom (w.heap.size + 6) V (V.setCell ⟨w.heap.size + 1 + 1 + 1 + 1, 0, none⟩ (.int .i64 cnt')) ∧
      KpE (w.heap.size + 6) (ExC (w.heap.size + 1 + 1 + 1 + 1) (w.heap.size + 1)) V (V.setCell ⟨w.heap.size + 1 + 1 + 1 + 1, 0, none⟩ (.int .i64 cnt')) := by
  have hs : (V.setCell ⟨w.heap.size + 1 + 1 + 1 + 1, 0, none⟩ (.int .i64 cnt')).heap.size = V.heap.size := by simp [World.setCell]
  have same : ∀ k, k ≠ w.heap.size + 1 + 1 + 1 + 1 → (V.setCell ⟨w.heap.size + 1 + 1 + 1 + 1, 0, none⟩ (.int .i64 cnt')).heap[k]? = V.heap[k]? := fun k hk => Below.heap_setCell _ _ _ _ hk
  refine ⟨⟨(same _ (by omega)).trans h.b4, (same _ (by omega)).trans h.b7, h.b8.set _, ?_, h.below.setCell (p := ⟨w.heap.size + 1 + 1 + 1 + 1, 0, none⟩) (by simp; omega) _, by rw [hs]; exact h.size⟩, (KeepsOthers.setCell _ _ _).from _, ⟨by rw [hs]; exact Nat.le_refl _, fun k o hk _ hn => ?_, fun k hk => .inl hk⟩⟩
  · obtain ⟨ys, h1, h2, h3⟩ := h.fs
    refine ⟨ys, h1, h2.block (fun k hk => same k (fun e => ?_)), h3⟩
    rcases hk with rfl | rfl | ⟨y, hy, hk⟩
    · omega
    · omega
    · have := h3 y hy k hk; omega
  · rw [same k (fun e => hn (.inl e))]; exact hk
end Go.Proofs.YtpdelgjfamelfaaGreat
/- VX -/
namespace Go.Proofs.YtpdelgjfamelfaaGreat
open Go.RowKit Go.Lib Go.Vfs Go.Par Go.Shelf
set_option linter.unusedVariables false

/-- the last statement of a round of Crash's loop. -/
theorem crash_last {w V : World} {power : Int} {keeps : List Int} {kv : Value} {cnt : Nat} {fs : List File} (hI : CrashI w power keeps kv cnt fs V) (x : FileR) (hFx : FileAt V x) (hdl : x.f.data.length ≤ 2147483648) (hnl : x.f.name.length ≤ 100000) (hfl : fs.length ≤ 100000)
    {N : Nat} (hN : N = cutN (cutK keeps fs.length) x.f) {l n : Nat} {Q : Exit → Act → World → Prop}
    (hQ : ∀ a w3, CrashI w power keeps kv cnt (fs ++ [x.f]) w3 → KeepsFrom (w.heap.size + 6) V w3 → KpE (w.heap.size + 6) (ExC (w.heap.size + 1 + 1 + 1 + 1) (w.heap.size + 1)) V w3 → Q .normal a w3)
    (a : Act) (hs : a.tmps.size = 65) (f7 : a.tmps.getD 7 undef = .pointer (some ⟨w.heap.size + 1 + 1 + 1, 0, none⟩)) (f9 : a.tmps.getD 9 undef = .string ⟨x.f.name.toArray⟩) (f10 : a.tmps.getD 10 undef = .pointer (some ⟨x.q, 0, none⟩)) (f12 : a.tmps.getD 12 undef = .int .i64 N) :
    (Code.region 11 ops11 true).wpIn (Fence.wide.inRound l) n Tryz.prog Q a V := by
  obtain ⟨A2, c2, hv⟩ := hFx.form
  have hh := hFx.head
  have hrow := hFx.row
  rw [hv] at hh hrow
  have hcap := row_cap hrow
  have hNl : N ≤ x.f.data.length := by rw [hN]; exact cutN_le _ _ hFx.safe
  obtain ⟨ys, hys, hat, hyb⟩ := hI.fs
  have hcq : V.cell? ⟨x.q, 0, none⟩ = some (.slice A2 x.f.data.length c2) := by simp [World.cell?, hh]
  have hcp : V.cell? ⟨w.heap.size + 1 + 1, 0, none⟩ = some (.map (some (w.heap.size + 1))) := by simp [World.cell?, hat.head]
  have hyl : ys.length ≤ 100000 := by
    have h1 := congrArg List.length hys
    have h2 := crashW_length keeps fs
    simp at h1
    omega
  have hkey : keyOf Tryz.prog 9 (.string ⟨x.f.name.toArray⟩) = some (.string x.f.name) := by
    have := keyStr ⟨x.f.name.toArray⟩ (by rw [Lib.size_eq]; simp; omega)
    simpa using this
  refine region11 (W := V) (pL := w.heap.size + 1 + 1) (mL := w.heap.size + 1) (q := x.q) (N := N) (len := x.f.data.length) (c2 := c2) (b7 := w.heap.size + 1 + 1 + 1) (A2 := A2) (S := ⟨x.f.name.toArray⟩)
    (Post := fun u w2 => Par.Own w2 V.heap.size 5 u (byteCells (x.f.data.take N)) ∧ Below V.heap.size V w2)
    (Fin := fun w3 => CrashI w power keeps kv cnt (fs ++ [x.f]) w3 ∧ KeepsFrom (w.heap.size + 6) V w3 ∧ KpE (w.heap.size + 6) (ExC (w.heap.size + 1 + 1 + 1 + 1) (w.heap.size + 1)) V w3)
    hI.b7.cell hcp hcq (by omega) (fun u w2 ⟨h1, h2⟩ => ?_) ?_ (fun u w2 ⟨h1, h2⟩ => ?_) (fun a w3 ⟨h1, h2, h3⟩ => hQ a w3 h1 h2 h3) a hs f7 f9 f10 f12
  · obtain ⟨A, c, hu⟩ := h1.form
    exact ⟨(h2.cell (p := ⟨_, _, _⟩) hI.b7.lt).trans hI.b7.cell, (h2.cell (p := ⟨_, _, _⟩) (World.block_lt_of_cell? _ _ hcp)).trans hcp, (h2.cell (p := ⟨_, _, _⟩) (World.block_lt_of_cell? _ _ hcq)).trans hcq, A, _, c, hu⟩
  · have hr : V.drew.ownsRow 0 5 1 (.slice A2 N c2) (x.f.data.take N).length (byteCells (x.f.data.take N)) := by
      have := ownsRow_take hrow N hNl
      rw [List.length_take, Nat.min_eq_left hNl]
      exact this
    refine (clone_any _ (x.f.data.take N) 0 V.drew hr (by simp; omega)).mono ?_
    rintro e w' ⟨u, rfl, h1, h2⟩
    exact ⟨u, rfl, h1, ⟨h2.os, h2.tape, h2.output, h2.size, h2.block⟩⟩
  · have hm2 : (w2.alloc (.cells #[u, .int .i64 N] 79)).ownsMap Tryz.prog 9 ptrElem (w.heap.size + 1) ys.length (dat ys) := (ownsMap_block hat.map (h2.block _ hat.map.lt)).alloc _
    obtain ⟨w3, hrun, hmap, hg⟩ := hm2.update strK Tryz.underlying72 (by unfold maxLen; omega) hkey (val := .pointer (some ⟨w2.heap.size, 0, none⟩)) (d := .lit (.int .i64 w2.heap.size)) (ps := []) rfl
    exact ⟨w3, hrun, crash_put hI hFx.safe hN h1 h2 hys hat hyb hmap hg⟩
end Go.Proofs.YtpdelgjfamelfaaGreat
/- V15 -/
namespace Go.Proofs.YtpdelgjfamelfaaGreat
open Go.RowKit Go.Lib Go.Vfs Go.Par Go.Shelf
set_option linter.unusedVariables false
attribute [local go_sem] Oper.semAt_some

theorem CrashI.kept {w X Y : World} {power : Int} {keeps : List Int} {kv : Value} {cnt : Nat} {fs : List File} {row : Option Nat} (h : CrashI w power keeps kv cnt fs X) (hg : X.grownBy Y row) (hr : ∀ r, row = some r → w.heap.size + 6 ≤ r ∧ ∃ o : Obj, X.heap[r]? = some o ∧ o.isCells = false) : CrashI w power keeps kv cnt fs Y := by
  have hz := h.size
  have same : ∀ k, k < w.heap.size + 6 → Y.heap[k]? = X.heap[k]? := fun k hk => hg.block k (by omega) (fun e => by have := (hr k e.symm).1; omega)
  have cells : ∀ (k : Nat) (o : Obj), X.heap[k]? = some o → o.isCells = true → Y.heap[k]? = X.heap[k]? := fun k o hk hc => hg.block k (lt_of_block hk) (fun e => by
    obtain ⟨_, o', ho', hc'⟩ := hr k e.symm
    rw [hk] at ho'
    cases ho'
    rw [hc] at hc'
    cases hc')
  obtain ⟨ys, h1, h2, h3⟩ := h.fs
  refine ⟨(same _ (by omega)).trans h.b4, (same _ (by omega)).trans h.b7, (same _ (by omega)).trans h.b8, ⟨ys, h1, h2.block (fun k hk => ?_), h3⟩, h.below.grown hg h.below.size (fun k e => by have := (hr k e).1; omega), by have := hg.size; omega⟩
  rcases hk with rfl | rfl | ⟨y, hy, hk⟩
  · exact same _ (by omega)
  · exact same _ (by omega)
  · have hf := h2.files y hy
    unfold blocksR at hk
    rcases List.mem_cons.1 hk with rfl | hk
    · exact cells _ _ hf.head rfl
    · have hk' : y.v.ownBlock = some k := by simpa using hk
      rcases hf.row.2 with ⟨e, _⟩ | ⟨g, cap, cur, e, _, hb, _⟩
      · rw [e] at hk'; cases hk'
      · rw [e] at hk'
        cases hk'
        exact cells _ _ hb rfl

set_option maxRecDepth 100000 in
set_option maxHeartbeats 2000000 in
theorem crash_any (w : World) (p : Nat) (st : St) (F : Nat → Prop) (h : Fsy w p st F) (hfl : st.files.length ≤ 100000) (hnl : ∀ f ∈ st.files, f.name.length ≤ 100000) (hdl : ∀ f ∈ st.files, f.data.length ≤ 2147483648)
    (kv : Value) (keeps : List Int) (hk : Seg w w.heap.size kv (ints keeps)) (power : Int) :
    Calls Tryz.prog 12 #[.pointer (some ⟨p, 0, none⟩), kv, .int .i64 power] w fun e w' => ∃ p' F', e = .returned (.pointer (some ⟨p', 0, none⟩)) ∧ Fsy w' p' (stCrash st keeps power) F' ∧ (∀ k, F' k → w.heap.size ≤ k ∧ k < w'.heap.size) ∧ Below w.heap.size w w' := by
  obtain ⟨xs, mb, hfs, hat, rfl⟩ := h
  have hxl : xs.length ≤ 100000 := by rw [hfs] at hfl; simpa using hfl
  have hxn : ∀ x ∈ xs, x.f.name.length ≤ 100000 := fun x hx => hnl x.f (by rw [hfs]; exact List.mem_map_of_mem hx)
  have hlt := hat.lt
  obtain ⟨A, c, rfl, hcc, hcm, hkat⟩ := hk.open_ints
  obtain ⟨W0, hW0⟩ : ∃ W0, W0 = (((((w.alloc (.cells #[.slice A keeps.length c] 57)).alloc (.map #[] 0)).alloc (.cells #[.map (some (w.heap.size + 1)), .int .i64 power] 74)).alloc (.cells #[.pointer (some ⟨w.heap.size + 1 + 1, 0, none⟩)] 24)).alloc (.cells #[.int .i64 0] 3)).alloc (.cells #[.pointer (some ⟨p, 0, none⟩)] 24) := ⟨_, rfl⟩
  have hs0 : W0.heap.size = w.heap.size + 6 := by rw [hW0]; simp
  have hb0 : Below w.heap.size w W0 := by
    rw [hW0]
    exact ((((((Below.refl _ w).alloc (Nat.le_refl _) _).alloc (by simp) _).alloc (by simp; omega) _).alloc (by simp; omega) _).alloc (by simp; omega) _).alloc (by simp; omega) _
  have HSEQ : Hid (SeqStopsK Fence.wide 6 Tryz.prog 70 #[.pointer (some ⟨w.heap.size + 1 + 1 + 1 + 1 + 1, 0, none⟩)] (encF (xs := xs)) (KpE (w.heap.size + 6) (ExC (w.heap.size + 1 + 1 + 1 + 1) (w.heap.size + 1))) (fun ys => ys = xs.attach) (fun pre => pre <+: xs.attach) xs.length W0) := Lib.hid (each_stops W0 p st.power xs mb (hat.below hb0) hxl hxn _ (w.heap.size + 6) (by omega) (by omega) (by rw [hW0]; have := heap_alloc_new (((((w.alloc (.cells #[.slice A keeps.length c] 57)).alloc (.map #[] 0)).alloc (.cells #[.map (some (w.heap.size + 1)), .int .i64 power] 74)).alloc (.cells #[.pointer (some ⟨w.heap.size + 1 + 1, 0, none⟩)] 24)).alloc (.cells #[.int .i64 0] 3)) (.cells #[.pointer (some ⟨p, 0, none⟩)] 24); simpa only [World.size_alloc] using this) (fun k hk => by have := hlt k hk; omega) _ (fun W hW k hk => by
    rcases hk with rfl | rfl
    · exact ⟨by omega, by omega, fun ho => by have := hlt _ ho; omega⟩
    · exact ⟨by omega, by omega, fun ho => by have := hlt _ ho; omega⟩))
  refine (callsIn_wide (n := 7)).1 ?_
  refine callsIn_of_wp_marks Tryz.func12 rfl trivial ?_ rfl
  simp only [Tryz.ntmps12, List.size_toArray, List.length_cons, List.length_nil, Nat.reduceAdd, Nat.reduceSub, Array.replicate_succ, Array.replicate_zero, List.push_toArray, List.append_toArray, List.nil_append, List.cons_append]
  gi_wp2_with (first
    | (refine ⟨trivial, ?_⟩; gi_at_call 6; refine (callsIn_wide.2 (new_any power _)).mono ?_; rintro e w1 ⟨rfl, rfl⟩)
    | (refine ⟨trivial, ?_⟩; gi_at_call 43; refine (callsIn_wide.2 (each_any p _)).mono ?_; rintro e w1 ⟨rfl, rfl⟩))
  rw [← hW0]
  have hgx := hb0.size
  have HFS := Lib.hid hfs
  refine wpIn_rangeFunc_ownG (F := Fence.wide) rfl (by omega) (gf := 70) (lb := #[.pointer (some ⟨w.heap.size + 1 + 1 + 1 + 1 + 1, 0, none⟩)]) rfl trivial (enters_of Tryz.func70 (by kernel_rfl) rfl)
    HSEQ.out kpE_t ?hKb (Below.refl _ _) (fun _ => rfl)
    (fun pre W => CrashI w power keeps (.slice A keeps.length c) (if keeps.length = 0 then 0 else pre.length) (pre.map fun x => x.1.f) W)
    (fun _ _ _ => False) ?hI (fun _ _ _ _ _ hs _ _ => hs) ?h0
    (fun x => { tmps := #[.pointer (some ⟨p, 0, none⟩), .slice A keeps.length c, .int .i64 power, undef, .pointer (some ⟨w.heap.size, 0, none⟩), undef, .pointer none, .pointer (some ⟨w.heap.size + 1 + 1 + 1, 0, none⟩), .pointer (some ⟨w.heap.size + 1 + 1 + 1 + 1, 0, none⟩), .string ⟨x.1.f.name.toArray⟩, .pointer (some ⟨x.1.q, 0, none⟩), undef, undef, .int .i64 power, .pointer (some ⟨w.heap.size + 1 + 1, 0, none⟩), .pointer (some ⟨p, 0, none⟩), .func (.func 70) #[] #[.pointer (some ⟨w.heap.size + 1 + 1 + 1 + 1 + 1, 0, none⟩)], .string ⟨x.1.f.name.toArray⟩, .pointer (some ⟨x.1.q, 0, none⟩), undef, undef, undef, undef, undef, undef, undef, undef, undef, undef, undef, undef, undef, undef, undef, undef, undef, undef, undef, undef, undef, undef, undef, undef, undef, undef, undef, undef, undef, undef, undef, undef, undef, undef, undef, undef, undef, undef, undef, undef, undef, undef, undef, undef, undef, undef], defers := [] }) ?assign ?body ?done ?stop
  case hKb =>
    intro W l o o' hl hget hcl hwl
    exact kpE_putObj (by omega) hget hcl (fun k hk => hk)
  case hI =>
    intro pre X Y row hs hg hr
    exact hs.kept hg (fun r e => ⟨by have := (hr r e).1; omega, (hr r e).2⟩)
  case h0 =>
    have e0 : (if keeps.length = 0 then 0 else ([] : List (FileOf xs)).length) = 0 := by split <;> rfl
    rw [e0, hW0]
    have k7 := ((Boxed.new (((w.alloc (.cells #[.slice A keeps.length c] 57)).alloc (.map #[] 0)).alloc (.cells #[.map (some (w.heap.size + 1)), .int .i64 power] 74)) 24 (.pointer (some ⟨w.heap.size + 1 + 1, 0, none⟩))).alloc (.cells #[.int .i64 0] 3)).alloc (.cells #[.pointer (some ⟨p, 0, none⟩)] 24)
    have k8 := (Boxed.new ((((w.alloc (.cells #[.slice A keeps.length c] 57)).alloc (.map #[] 0)).alloc (.cells #[.map (some (w.heap.size + 1)), .int .i64 power] 74)).alloc (.cells #[.pointer (some ⟨w.heap.size + 1 + 1, 0, none⟩)] 24)) 3 (.int .i64 0)).alloc (.cells #[.pointer (some ⟨p, 0, none⟩)] 24)
    have kh := (heap_alloc_new ((w.alloc (.cells #[.slice A keeps.length c] 57)).alloc (.map #[] 0)) (.cells #[.map (some (w.heap.size + 1)), .int .i64 power] 74))
    have km := World.ownsMap_made (w.alloc (.cells #[.slice A keeps.length c] 57)) Tryz.prog 9 ptrElem
    simp only [World.size_alloc] at k7 k8 kh km
    refine ⟨((((((Boxed.new w 57 (.slice A keeps.length c)).alloc _).alloc _).alloc _).alloc _).alloc _), k7, k8, ⟨[], rfl, ⟨?_, (((km.alloc _).alloc _).alloc _).alloc _, by simp, List.Pairwise.nil, by omega, by simp, by simp⟩, by simp⟩, by rw [← hW0]; exact hb0, by rw [← hW0]; omega⟩
    rw [Below.heap_alloc _ _ _ (by first | omega | (simp; done) | (simp; omega)), Below.heap_alloc _ _ _ (by first | omega | (simp; done) | (simp; omega)), Below.heap_alloc _ _ _ (by first | omega | (simp; done) | (simp; omega))]
    exact kh
  case assign =>
    intro l x W K hK
    dsimp only [encF]
    gi_wp2
    exact hK
  case body =>
    intro l pre x W hIW hlen
    have hxq : x.1.q < w.heap.size := lt_of_block (hat.files x.1 x.2).head
    have hFx := (hat.files x.1 x.2).block (w' := W) (fun k hk => hIW.below.block k ((hat.files x.1 x.2).lt k hk))
    obtain ⟨A2, c2, hv2⟩ := hFx.form
    have hh2 := hFx.head
    rw [hv2] at hh2
    have hrow2 := hFx.row
    rw [hv2] at hrow2
    have hcap2 := row_cap hrow2
    have hsafe := hFx.safe
    have g0 : W.cell? ⟨x.1.q, 0, none⟩ = some (.slice A2 x.1.f.data.length c2) := by simp [World.cell?, hh2]
    have g1 : W.cell? ⟨x.1.q, 1, none⟩ = some (.int .i64 x.1.f.safe) := by simp [World.cell?, hh2]
    have hdx : x.1.f.data.length ≤ 2147483648 := hdl x.1.f (by rw [HFS.out]; exact List.mem_map_of_mem x.2)
    have hnx := hxn x.1 x.2
    have HFX := Lib.hid hFx
    clear hv2 hh2 hFx hrow2
    by_cases hk0 : keeps.length = 0
    · rw [if_pos hk0] at hIW
      have c4 := hIW.b4.cell
      have c7 := hIW.b7.cell
      have c8 := hIW.b8.cell
      have HI := Lib.hid hIW; clear hIW
      have hd0 : decide (0 < keeps.length) = false := by rw [hk0]; rfl
      have q1 : IntKind.i64.wrap ((x.1.f.data.length : Int) - x.1.f.safe) = ((x.1.f.data.length - x.1.f.safe : Nat) : Int) := by rw [IntWalk.i64_in _ (by omega)]; omega
      gi_wp2
      refine wpIn_round_quiet (by kernel_rfl) (by kernel_rfl) (by kernel_rfl) ?_
      repeat (any_goals (first | go_big_quiet_step (fail) | quiet_step (fail)))
      all_goals (refine wpQuiet_nil ?_; intro _ hw'; obtain ⟨nq, hw''⟩ := hw'; subst hw'')
      clear q1
      gi_wp2
      have hNe : (x.1.f.safe : Int) + min 0 ((x.1.f.data.length - x.1.f.safe : Nat) : Int) = ((cutN (cutK keeps (pre.map fun x => x.1.f).length) x.1.f : Nat) : Int) := by unfold cutN cutK; rw [if_pos hk0]; simp; omega
      rw [hNe]
      refine crash_last (HI.out.drewN nq) x.1 (HFX.out.block (fun _ _ => rfl)) hdx hnx (by simp; omega) rfl (fun a w3 h1 h2 h3 => ?_) _ rfl rfl rfl rfl rfl
      refine ⟨⟨h2.size, fun k o hB => h2.same k o (by omega)⟩, h3, ?_⟩
      show CrashI w power keeps (.slice A keeps.length c) (if keeps.length = 0 then 0 else (pre ++ [x]).length) ((pre ++ [x]).map fun x => x.1.f) w3
      rw [if_pos hk0, List.map_append]
      exact h1
    · rw [if_neg hk0] at hIW
      have hkp : 0 < keeps.length := by omega
      have c4 := hIW.b4.cell
      have c7 := hIW.b7.cell
      have c8 := hIW.b8.cell
      have f8 := hIW.b8.frozen
      obtain ⟨j, hj⟩ : ∃ j, j = pre.length % keeps.length := ⟨_, rfl⟩
      have hjl : j < keeps.length := by rw [hj]; exact Nat.mod_lt _ hkp
      obtain ⟨bk, ok, xk, rfl, hbk, hck, Hxk⟩ := hkat.int hjl
      have hckW : W.cell? ⟨bk, ok + j, none⟩ = some (.int .i64 xk) := (hIW.below.cell (p := ⟨bk, ok + j, none⟩) hbk).trans hck
      have q0 : ((pre.length : Int)).tmod (keeps.length : Int) = (j : Int) := by rw [hj]; rfl
      have HJ := Lib.hid hj; clear hj hck
      have hne8 : w.heap.size + 1 + 1 + 1 + 1 ≠ x.1.q := by omega
      have HI := Lib.hid hIW; clear hIW
      have hd0 : decide (0 < keeps.length) = true := by simpa using hkp
      gi_wp2
      refine wpIn_round_quiet (by kernel_rfl) (by kernel_rfl) (by kernel_rfl) ?_
      repeat (any_goals (first | go_big_quiet_step (fail) | quiet_step (fail)))
      all_goals (refine wpQuiet_nil ?_; intro _ hw'; obtain ⟨nq, hw''⟩ := hw'; subst hw'')
      clear q0
      gi_wp2
      have q2 : (pre.length : Int) + 1 = ((pre.length + 1 : Nat) : Int) := by omega
      rw [q2]
      obtain ⟨V, hV⟩ : ∃ V, V = (W.drewN nq).setCell ⟨w.heap.size + 1 + 1 + 1 + 1, 0, none⟩ (.int .i64 ((pre.length + 1 : Nat) : Int)) := ⟨_, rfl⟩
      rw [← hV]
      obtain ⟨hI2, hK2, hP2⟩ := (HI.out.drewN nq).count (pre.length + 1)
      have hFV : FileAt V x.1 := HFX.out.block (fun k hk => by
        rw [hV, Below.heap_setCell _ _ _ _ (fun e => by have := (hat.files x.1 x.2).lt k hk; have h2 : k = w.heap.size + 1 + 1 + 1 + 1 := e; omega)]
        rfl)
      have g0V : V.cell? ⟨x.1.q, 0, none⟩ = some (.slice A2 x.1.f.data.length c2) := by rw [hV, World.cell?_setCell_other _ _ _ _ (fun e => hne8 (by injection e))]; exact g0
      have g1V : V.cell? ⟨x.1.q, 1, none⟩ = some (.int .i64 x.1.f.safe) := by rw [hV, World.cell?_setCell_other _ _ _ _ (fun e => hne8 (by injection e))]; exact g1
      rw [← hV] at hI2 hK2 hP2
      have HV := Lib.hid hV; clear hV q2 hckW c4 c7 c8 f8 g0 g1
      have HI2 := Lib.hid hI2; clear hI2
      have HK2 := Lib.hid hK2; clear hK2
      have HP2 := Lib.hid hP2; clear hP2
      have HFV := Lib.hid hFV; clear hFV
      have q1 : IntKind.i64.wrap ((x.1.f.data.length : Int) - x.1.f.safe) = ((x.1.f.data.length - x.1.f.safe : Nat) : Int) := by rw [IntWalk.i64_in _ (by omega)]; omega
      refine wpIn_round_quiet (by kernel_rfl) (by kernel_rfl) (by kernel_rfl) ?_
      repeat (any_goals (first | go_big_quiet_step (fail) | quiet_step (fail)))
      all_goals (refine wpQuiet_nil ?_; intro _ hw'; obtain ⟨nq2, hw''⟩ := hw'; subst hw'')
      clear q1
      gi_wp2
      have hNe : (x.1.f.safe : Int) + min (max xk 0) ((x.1.f.data.length - x.1.f.safe : Nat) : Int) = ((cutN (cutK keeps (pre.map fun x => x.1.f).length) x.1.f : Nat) : Int) := by
        unfold cutN cutK
        rw [if_neg hk0, List.length_map, ← HJ.out, Hxk.out]
        omega
      rw [hNe]
      refine crash_last (HI2.out.drewN nq2) x.1 (HFV.out.block (fun _ _ => rfl)) hdx hnx (by simp; omega) rfl (fun a w3 h1 h2 h3 => ?_) _ rfl rfl rfl rfl rfl
      refine ⟨⟨Nat.le_trans HK2.out.size h2.size, fun k o hB hk hc => h2.same k o (by omega) (HK2.out.same k o (by omega) hk hc) hc⟩, kpE_t HP2.out h3, ?_⟩
      show CrashI w power keeps (.slice (some ⟨bk, ok, none⟩) keeps.length c) (if keeps.length = 0 then 0 else (pre ++ [x]).length) ((pre ++ [x]).map fun x => x.1.f) w3
      rw [if_neg hk0, List.map_append, List.length_append]
      exact h1
  case done =>
    rintro D ys W hD rfl hIW hK
    have c7 := hIW.b7.cell
    have HI := Lib.hid hIW; clear hIW
    gi_wp2
    refine ⟨by simp, .inl ⟨_, _, rfl, run_takeDeferred hK, ?_⟩⟩
    have hY := HI.out.kept (grownBy_putObj' W D (.deferred none)) (fun r e => by cases e; exact ⟨by omega, _, hK, rfl⟩)
    obtain ⟨zs, hz1, hz2, hz3⟩ := hY.fs
    refine ⟨_, results_tmp rfl _ _ _, w.heap.size + 1 + 1, OwnF (w.heap.size + 1 + 1) (w.heap.size + 1) zs, rfl, ⟨zs, w.heap.size + 1, ?_, hz2, rfl⟩, fun k hk => ⟨?_, hz2.lt k hk⟩, hY.below⟩
    · rw [hz1]
      have he : (xs.attach.map fun x => x.1.f) = st.files := by rw [HFS.out]; simp
      rw [he, crashW_rising keeps (by rw [HFS.out]; exact List.pairwise_map.2 hat.rising)]
      rfl
    · rcases hk with rfl | rfl | ⟨y, hy, hk⟩
      · omega
      · omega
      · have := hz3 y hy k hk; omega
  case stop =>
    rintro D c pre W _ _ h _
    exact h.elim
end Go.Proofs.YtpdelgjfamelfaaGreat
