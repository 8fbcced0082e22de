import Derived.Test.YtpdelgjfamelfaaV12
import Derived.Test.YtpdelgjfamelfaaIt
import Derived.RangeFuncNested
import Derived.RangeFuncBound
import Derived.RangeFuncCalls
import Derived.RangeFuncLeaves
import Derived.RangeFuncFrom
import Derived.Shelf.Abstract
import Derived.OwnWalkIn
import Derived.TacticsInMore
import Derived.LoopNIn
import Derived.LoopIn
namespace Go.Proofs.Ytpdelgjfamelfaa
open Go.RowKit Go.Lib Go.Vfs Go.Par Go.Shelf
set_option linter.unusedVariables false
attribute [local go_sem] Oper.semAt_some

/- names in their order. -/
theorem before_lt : ∀ {a b : List UInt8}, bytesBefore a b = true ↔ a < b
  | [], [] => by simp [bytesBefore]
  | [], _ :: _ => by simp [bytesBefore]
  | _ :: _, [] => by simp [bytesBefore]
  | a :: r, b :: s => by
    simp only [bytesBefore, Bool.or_eq_true, Bool.and_eq_true, decide_eq_true_eq, beq_iff_eq, List.cons_lt_cons_iff, before_lt (a := r) (b := s)]
theorem sorted_names {xs : List FileR} (h : Rising keyR xs) {ss : List (List UInt8)} (hp : ss.Perm (xs.map keyR)) : ss.mergeSort (fun x y => decide (x ≤ y)) = xs.map keyR := by
  apply List.Perm.eq_of_pairwise (le := fun a b : List UInt8 => a ≤ b)
  · intro a b _ _ h1 h2; exact List.le_antisymm h1 h2
  · have := List.pairwise_mergeSort (le := fun x y : List UInt8 => decide (x ≤ y)) (fun a b c h1 h2 => by simp at h1 h2 ⊢; exact List.le_trans h1 h2) (fun a b => by simp; exact List.le_total a b) ss
    exact this.imp (fun h => by simpa using h)
  · rw [List.pairwise_map]
    exact h.imp (fun {a b} hab => List.not_lt.1 (fun hlt => by
      have h1 := before_lt.1 hab
      have h2 := before_lt.2 hlt
      rw [before_asymm hab] at h2; cases h2))
  · exact (List.mergeSort_perm ss _).trans hp
theorem strKeys_dat (xs : List FileR) : strKeys (dat xs) = xs.map keyR := by
  unfold strKeys dat
  simp only [List.map_map]
  rfl

theorem names_row {W1 : World} {v : Value} {ss : List (List UInt8)} {xs : List FileR} {base : Nat} (h : Rising keyR xs) (hS : ss.Perm (strKeys (dat xs))) (hrow : W1.ownsRow base 9 1 v ss.length ((ss.mergeSort (fun x y => decide (x ≤ y))).map Go.Proofs.encStr)) :
    ∃ A c, v = .slice A xs.length c ∧ c ≤ 9223372036854775807 ∧ xs.length ≤ c ∧ (0 < xs.length → ∃ g cur, A = some ⟨g, 0, none⟩ ∧ base ≤ g ∧ W1.heap[g]? = some (.cells cur 9 (0, 0)) ∧ ∀ k (hk : k < xs.length), cur[k]? = some (.string ⟨(xs[k]'hk).f.name.toArray⟩)) := by
  rw [strKeys_dat] at hS
  have hl : ss.length = xs.length := by have := hS.length_eq; simpa using this
  rw [sorted_names h hS] at hrow
  rcases hrow.2 with ⟨h1, h2⟩ | ⟨g, cap, cur, h1, h2, h3, h4, h5, h6, h7⟩
  · have h0 : xs.length = 0 := by omega
    exact ⟨none, 0, by rw [h1, h0], by omega, by omega, fun hp => by omega⟩
  · refine ⟨_, cap, by rw [h1, hl], by simpa [maxLen] using h5, by omega, fun _ => ⟨g, cur, rfl, h2, h3, fun k hk => ?_⟩⟩
    have h8 := congrArg (·[k]?) h7
    simp only [List.getElem?_take] at h8
    rw [if_pos (by omega)] at h8
    rw [Array.getElem?_toList] at h8
    rw [h8]
    simp [hk, keyR]

/-- what a round of a loop over the files keeps: all but what the loop's body owns (Ex). -/
def KpE (n₀ : Nat) (Ex : World → Nat → Prop) (W W' : World) : Prop :=
  W.heap.size ≤ W'.heap.size ∧ (∀ k o, W.heap[k]? = some o → (k < n₀ ∨ o.isCells = true) → ¬ Ex W k → W'.heap[k]? = some o) ∧ (∀ k, Ex W' k → Ex W k ∨ W.heap.size ≤ k)
theorem kpE_refl (n₀ : Nat) (Ex : World → Nat → Prop) (W : World) : KpE n₀ Ex W W := ⟨Nat.le_refl _, fun _ _ h _ _ => h, fun _ h => .inl h⟩
theorem kpE_t {n₀ : Nat} {Ex : World → Nat → Prop} {A B C : World} (h : KpE n₀ Ex A B) (k : KpE n₀ Ex B C) : KpE n₀ Ex A C :=
  ⟨Nat.le_trans h.1 k.1, fun i o hi hc hn => k.2.1 i o (h.2.1 i o hi hc hn) hc (fun he => by
    rcases h.2.2 i he with h1 | h1
    · exact hn h1
    · have := lt_of_block hi; omega), fun i hi => by
    rcases k.2.2 i hi with h1 | h1
    · exact h.2.2 i h1
    · right; have := h.1; omega⟩

theorem look_map {w : World} {xs : List FileR} {mb n : Nat} (hm : w.ownsMap Try.prog 9 ptrElem mb n (dat xs)) (s : ByteArray) (hs : s.size ≤ 9223372036854775807) :
    (Instr.lookup 82 (.map (some mb)) (.string s) false).run Try.prog w = .ok (ptrOf xs s.data.toList) w := by
  obtain ⟨v, ps, hrun, hv⟩ := hm.lookup strK Try.underlying82 (zeroPtr _) (zd := .nil) (zp := []) rfl (keyStr s hs)
  rw [hrun]
  rw [dat_at] at hv
  unfold ptrOf
  cases hf : findL keyR s.data.toList xs with
  | none => rw [hf] at hv; rw [ptrElem_nil hv]
  | some x => rw [hf] at hv; rw [ptrElem_at hv]

/-- a file of the list, as the loop over the files hands it on. -/
abbrev FileOf (xs : List FileR) := { x : FileR // x ∈ xs }
def encF {xs : List FileR} (x : FileOf xs) : Array Value := #[.string ⟨x.1.f.name.toArray⟩, .pointer (some ⟨x.1.q, 0, none⟩)]

theorem attach_succ (xs : List FileR) (k : Nat) (hk : k < xs.length) : xs.attach.take (k + 1) = xs.attach.take k ++ [⟨xs[k], List.getElem_mem hk⟩] := by
  rw [List.take_succ_eq_append_getElem (by simpa using hk)]
  simp

set_option maxRecDepth 100000 in
set_option maxHeartbeats 2000000 in
theorem each_stops (w : World) (p : Nat) (pow : Int) (xs : List FileR) (mb : Nat) (h : FSAt w p pow xs mb) (hxl : xs.length ≤ 100000) (hnl : ∀ x ∈ xs, x.f.name.length ≤ 100000) (Bn n₀ : Nat) (hBn : Bn < n₀) (hn₀ : n₀ ≤ w.heap.size) (hc : w.heap[Bn]? = some (.cells #[.pointer (some ⟨p, 0, none⟩)] 24 (0, 0)))
    (hF : ∀ k, OwnF p mb xs k → k < n₀) (Ex : World → Nat → Prop) (hEx : ∀ W, Below w.heap.size w W → ∀ k, Ex W k → k < w.heap.size ∧ k ≠ Bn ∧ ¬ OwnF p mb xs k) :
    SeqStopsK Fence.wide 6 Try.prog 73 #[.pointer (some ⟨Bn, 0, none⟩)] (encF (xs := xs)) (KpE n₀ Ex) (fun ys => ys = xs.attach) (fun pre => pre <+: xs.attach) xs.length w := by
  intro l J Jx W hW hJ hJx hY h0
  have hWF : FSAt W p pow xs mb := h.below hW
  have hWB : W.heap[Bn]? = some (.cells #[.pointer (some ⟨p, 0, none⟩)] 24 (0, 0)) := (hW.block Bn (by omega)).trans hc
  have cB : W.cell? ⟨Bn, 0, none⟩ = some (.pointer (some ⟨p, 0, none⟩)) := by simp [World.cell?, hWB]
  have cp : W.cell? ⟨p, 0, none⟩ = some (.map (some mb)) := by simp [World.cell?, hWF.head]
  have hsz : Maps.size (dat xs) = xs.length := by unfold dat; simp [Maps.size_eq]
  have hfK : Fence.wide.fn 75 := trivial
  have hfS : Fence.wide.fn 74 := trivial
  have HWF := Lib.hid hWF; clear hWF
  have HSZ := Lib.hid hsz; clear hsz
  have HW := Lib.hid hW; clear hW
  have HWB := Lib.hid hWB; clear hWB
  have HEX := Lib.hid hEx; clear hEx
  have HFF := Lib.hid hF; clear hF
  clear hc h
  refine callsIn_of_wp Try.func73 rfl trivial ?_ rfl
  simp only [Try.ntmps73, List.size_toArray, List.length_cons, List.length_nil, Nat.reduceAdd, Nat.reduceSub, Array.replicate_succ, Array.replicate_zero, List.push_toArray, List.append_toArray, List.nil_append, List.cons_append]
  gi_wp2_with (first
    | (gi_at_call 75; refine (mapsKeys _ _).mono ?_; rintro e w' ⟨rfl, rfl⟩)
    | (gi_at_call 74; refine (sortedKeys mb xs.length (dat xs) ptrElem W HWF.out.map (by rw [HSZ.out]; unfold maxLen; omega) (by rw [HSZ.out]; omega)).mono ?_; rintro e W1 ⟨v, ss, rfl, hS, hrow, hnil, hb⟩; obtain ⟨A1, c1, rfl, hcm, hcl, hcur⟩ := names_row HWF.out.rising hS hrow; clear hS hrow hnil))
  have hbW : Below W.heap.size W W1 := ((Below.refl _ W).alloc (Nat.le_refl _) _).trans (hb.mono (by simp))
  have hJ1 : J [] W1 := hJ _ _ _ none h0 ⟨hbW.os, hbW.tape, hbW.output, hbW.size, fun k hk _ => hbW.block k hk⟩ (fun r e => by cases e)
  have HBW := Lib.hid hbW
  have HCUR := Lib.hid hcur
  clear hb hbW hcur cB cp
  gi_loopw [12] (fun i wr => ∃ k : Nat, k ≤ xs.length ∧ i = .int .i64 k ∧ KpE n₀ Ex W1 wr ∧ J (xs.attach.take k) wr) (fun i _ => xs.length - (intOf i).toNat)
  case atStart => exact ⟨0, by omega, rfl, kpE_refl _ _ _, hJ1⟩
  case round =>
    obtain ⟨k, hk, rfl, hkp, hJk⟩ := hrel
    have hWs := HW.out.size
    have hW1s := HBW.out.size
    have hb01 : Below w.heap.size w W1 := HW.out.trans (HBW.out.mono hWs)
    by_cases hlt : k < xs.length
    · obtain ⟨g, cur, rfl, hg, hgb, hget⟩ := HCUR.out (by omega)
      have hold : ∀ i o, i < n₀ → W.heap[i]? = some o → ¬ Ex W1 i → wr.heap[i]? = some o := fun i o hi ho hn => hkp.2.1 i o ((HBW.out.block i (by omega)).trans ho) (.inl hi) hn
      have hBr := hold Bn _ hBn HWB.out (fun he => (HEX.out W1 hb01 _ he).2.1 rfl)
      have hpr := hold p _ (HFF.out p (.inl rfl)) HWF.out.head (fun he => (HEX.out W1 hb01 _ he).2.2 (.inl rfl))
      have hmr : wr.ownsMap Try.prog 9 ptrElem mb xs.length (dat xs) := by
        obtain ⟨es, clock, hm, r⟩ := HWF.out.map
        exact ⟨es, clock, hold mb _ (HFF.out mb (.inr (.inl rfl))) hm (fun he => (HEX.out W1 hb01 _ he).2.2 (.inr (.inl rfl))), r⟩
      have hgr : wr.heap[g]? = some (.cells cur 9 (0, 0)) := hkp.2.1 g _ hgb (.inr rfl) (fun he => by have := (HEX.out W1 hb01 _ he).1; simp at hg; omega)
      obtain ⟨x, hx⟩ : ∃ x, x = xs[k] := ⟨_, rfl⟩
      have hxm : x ∈ xs := by rw [hx]; exact List.getElem_mem hlt
      have hgk := hget k hlt
      rw [← hx] at hgk
      have cB : wr.cell? ⟨Bn, 0, none⟩ = some (.pointer (some ⟨p, 0, none⟩)) := by simp [World.cell?, hBr]
      have cp : wr.cell? ⟨p, 0, none⟩ = some (.map (some mb)) := by simp [World.cell?, hpr]
      have cg : wr.cell? ⟨g, k, none⟩ = some (.string ⟨x.f.name.toArray⟩) := by simp [World.cell?, hgr, hgk]
      have hlook := look_map hmr ⟨x.f.name.toArray⟩ (by have := hnl x hxm; rw [Lib.size_eq]; simp; omega)
      have hptr : ptrOf xs (⟨x.f.name.toArray⟩ : ByteArray).data.toList = .pointer (some ⟨x.q, 0, none⟩) := by
        have : findL keyR (keyR x) xs = some x := HWF.out.rising.findL hxm
        unfold ptrOf
        rw [show (⟨x.f.name.toArray⟩ : ByteArray).data.toList = keyR x by simp [keyR], this]
      rw [hptr] at hlook
      have hpre : (xs.attach.take k).length < xs.length := by simp; omega
      obtain ⟨fn, tmps, assign, body, hy, hR⟩ := hY (xs.attach.take k) ⟨x, hxm⟩ wr hJk hpre
      dsimp only [encF] at hy
      have HSU : Hid (xs.attach.take (k + 1) = xs.attach.take k ++ [⟨x, hxm⟩]) := Lib.hid (by rw [attach_succ xs k hlt]; congr 2; exact Subtype.ext hx.symm)
      have HKP := Lib.hid hkp; clear hkp
      clear hold hBr hpr hmr hgr hget hgk hptr hx hgb
      gi_wp2
      refine hR.mono ?_
      rintro e W3 (⟨rfl, hJ3, hk3⟩ | ⟨rfl, hJx3⟩)
      · rw [← HSU.out] at hJ3
        gi_wp2
        go_roundw
        case rel => exact ⟨k + 1, by omega, by go_num, kpE_t HKP.out hk3, hJ3⟩
        case measure => simp [intOf]; omega
      · rw [← HSU.out] at hJx3
        gi_wp2
        refine bodyPost_ret (results_none rfl _ _ _) rfl ?_
        exact ⟨⟨_, rfl⟩, .inr ⟨_, List.take_prefix _ _, hJx3⟩⟩
    · have hkl : k = xs.length := by omega
      have hJe : J xs.attach wr := by rw [hkl] at hJk; rwa [List.take_of_length_le (by simp)] at hJk
      clear hkp
      gi_wp2
      go_end0
      exact ⟨⟨_, rfl⟩, .inl ⟨_, rfl, hJe⟩⟩
end Go.Proofs.Ytpdelgjfamelfaa
