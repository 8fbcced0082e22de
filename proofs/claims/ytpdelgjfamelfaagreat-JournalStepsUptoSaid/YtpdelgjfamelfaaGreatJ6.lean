/- The iterator over frames. -/
import Derived.Test.YtpdelgjfamelfaaGreatJ5
import Derived.RangeFuncNested
import Derived.RangeFuncBound
import Derived.RangeFuncCalls
import Derived.RangeFuncLeaves
import Derived.RangeFuncFrom
import Derived.Shelf.Abstract
import Derived.OwnWalkIn
import Derived.TacticsInMore
import Derived.LoopNIn
import Derived.LoopIn
import Derived.Deep.RegionHeld3
namespace Go.Proofs.YtpdelgjfamelfaaGreat
open Go.RowKit Go.Lib Go.Vfs Go.Par Go.Shelf
set_option linter.unusedVariables false
set_option linter.unusedSimpArgs false
attribute [local go_sem] Oper.semAt_some

set_option maxRecDepth 100000 in
set_option maxHeartbeats 4000000 in
theorem frames_stops (w : World) (A : Option Addr) (c : Nat) (b : List UInt8) (K : Nat → Prop) (hseg : SegS K w (.slice A b.length c) (byteCells b)) (Bn : Nat) (hKB : K Bn) (hKlt : ∀ k, K k → k < w.heap.size)
    (hc : w.heap[Bn]? = some (.cells #[.slice A b.length c] 22 (0, 0))) (hl : b.length ≤ 2000000) :
    SeqStopsK Fence.wide 6 Tryz.prog 91 #[.pointer (some ⟨Bn, 0, none⟩)] (encFr (b := b) A c) (KpS K) (fun ys => ys = frs b) (fun pre => pre <+: frs b) (frs b).length w := by
  intro l J Jx W hW hJ hJx hY h0
  have HS := Lib.hid hseg; have HC := Lib.hid hc; have HW := Lib.hid hW; have HK := Lib.hid hKlt
  have HKW : Hid (KpS K w W) := Lib.hid (KpS.below hW hKlt)
  clear hseg hc hW hKlt
  have hfV : Fence.wide.fn 76 := trivial
  have hfS : Fence.wide.fn 32 := trivial
  refine callsIn_of_wp Tryz.func91 rfl trivial ?_ rfl
  simp only [Tryz.ntmps91, List.size_toArray, List.length_cons, List.length_nil, Nat.reduceAdd, Nat.reduceSub, Array.replicate_succ, Array.replicate_zero, List.push_toArray, List.append_toArray, List.nil_append, List.cons_append]
  gi_wp2
  gi_loopw [3] (fun i wr => ∃ (k f : Nat) (pre : List (FrOf b)), k ≤ b.length ∧ b.length < k + f ∧ i = .int .i64 k ∧ Hid (frs b = pre ++ frsF b f k) ∧ Hid (KpS K w wr) ∧ J pre wr ∧ W.heap.size ≤ wr.heap.size) (fun i _ => b.length - (intOf i).toNat)
  case atStart => exact ⟨0, b.length + 1, [], by omega, by omega, rfl, Lib.hid rfl, HKW, h0, Nat.le_refl _⟩
  case round =>
    obtain ⟨k, f, pre, hk, hf, rfl, HP, HKr, hJr, hzr⟩ := hrel
    have hB : wr.heap[Bn]? = some (.cells #[.slice A b.length c] 22 (0, 0)) := (HKr.out.2 Bn hKB).trans HC.out
    have cB : wr.cell? ⟨Bn, 0, none⟩ = some (.slice A b.length c) := by simp [World.cell?, hB]
    have hsg : Seg wr wr.heap.size (.slice A b.length c) (byteCells b) := (HS.out.keep (S' := K) fun x hx => ⟨hx, HKr.out.2 x hx⟩).seg fun x hx => by have := HK.out x hx; have := HKr.out.1; omega
    have HSG := Lib.hid hsg
    clear hB hsg
    by_cases h12 : b.length < k + 12
    · have HE : Hid (frs b = pre) := Lib.hid (by rw [HP.out, frsF_none (by unfold frAt; rw [if_pos h12])]; simp)
      have hd : ¬ (12 : Int) ≤ (b.length : Int) - (k : Int) := by omega
      gi_wp2
      go_end0
      exact ⟨⟨_, rfl⟩, .inl (by first | exact ⟨pre, HE.out.symm, hJr⟩ | (rw [HE.out]; exact hJr))⟩
    · have hd : (12 : Int) ≤ (b.length : Int) - (k : Int) := by omega
      have hBW : Bn < wr.heap.size := World.block_lt_of_cell? _ _ cB
      have HVAL : Hid (∀ (m : Nat), m + 4 ≤ b.length → ∃ Am cm, (∀ w', (Instr.slice 22 (.slice A b.length c) (some (.int .i64 (m : Int))) none none).run Tryz.prog w' = .ok (.slice Am (b.length - m) cm) w') ∧ ∀ X, Below wr.heap.size wr X → Calls Tryz.prog 76 #[.slice Am (b.length - m) cm] X fun e w' => e = .returned (.int .u32 (num4 (b.drop m) : Nat)) ∧ Hid (Below wr.heap.size wr w') ∧ w'.cell? ⟨Bn, 0, none⟩ = some (.slice A b.length c)) := Lib.hid fun m hm => by
        obtain ⟨Am, cm, em, sm⟩ := seg_drop HSG.out m (by omega)
        refine ⟨Am, cm, fun w' => by rw [slice_from A b.length c m w' (by omega), em], fun X hX => ?_⟩
        refine (value_any _ _ _ X (sm.below hX) (by simp; omega)).mono ?_
        rintro e w' ⟨rfl, n, rfl⟩
        exact ⟨rfl, Lib.hid (below_drewN hX n), (hX.cell (p := ⟨Bn, 0, none⟩) hBW).trans cB⟩
      obtain ⟨A4, c4, hs4, hv4⟩ := HVAL.out (k + 4) (by omega)
      rw [show ((k + 4 : Nat) : Int) = (k : Int) + 4 by omega] at hs4
      have HV4 := Lib.hid (hv4 wr (Below.refl _ _))
      clear hv4
      have hN := num4_lt (b.drop (k + 4))
      obtain ⟨N, hNe⟩ : ∃ N, N = num4 (b.drop (k + 4)) := ⟨_, rfl⟩
      rw [← hNe] at HV4 hN
      have HNE := Lib.hid hNe; clear hNe
      have HJR := Lib.hid hJr; clear hJr
      by_cases hbig : 65536 < N
      · have HE : Hid (frs b = pre) := Lib.hid (by rw [HP.out, frsF_none (by unfold frAt; rw [if_neg h12, if_pos (.inl (by rw [← HNE.out]; exact hbig))])]; simp)
        have hd1 : (65536 : Int) < (N : Int) := by omega
        gi_wp2_with (gi_at_call 76; refine (callsIn_wide.2 HV4.out).mono ?_; rintro e w1 ⟨rfl, HB1, cB1⟩)
        have hJ1 := hJ _ _ _ none HJR.out ⟨HB1.out.os, HB1.out.tape, HB1.out.output, HB1.out.size, fun k hk _ => HB1.out.block k hk⟩ (fun r e => by cases e)
        refine bodyPost_ret (results_none rfl _ _ _) rfl ?_
        exact ⟨⟨_, rfl⟩, .inl (by first | exact ⟨pre, HE.out.symm, hJ1⟩ | (rw [HE.out]; exact hJ1))⟩
      by_cases hlong : b.length < k + 12 + N
      · have HE : Hid (frs b = pre) := Lib.hid (by rw [HP.out, frsF_none (by unfold frAt; rw [if_neg h12, if_pos (.inr (by rw [← HNE.out]; exact hlong))])]; simp)
        have hd1 : ¬ (65536 : Int) < (N : Int) := by omega
        have hd2 : (b.length : Int) - (k : Int) - 12 < (N : Int) := by omega
        gi_wp2_with (gi_at_call 76; refine (callsIn_wide.2 HV4.out).mono ?_; rintro e w1 ⟨rfl, HB1, cB1⟩)
        have hJ1 := hJ _ _ _ none HJR.out ⟨HB1.out.os, HB1.out.tape, HB1.out.output, HB1.out.size, fun k hk _ => HB1.out.block k hk⟩ (fun r e => by cases e)
        refine bodyPost_ret (results_none rfl _ _ _) rfl ?_
        exact ⟨⟨_, rfl⟩, .inl (by first | exact ⟨pre, HE.out.symm, hJ1⟩ | (rw [HE.out]; exact hJ1))⟩
      have hd1 : ¬ (65536 : Int) < (N : Int) := by omega
      have hd2 : ¬ (b.length : Int) - (k : Int) - 12 < (N : Int) := by omega
      obtain ⟨hc5, A5, c5, e5, s5⟩ := seg_mid HSG.out (k + 12) (k + 12 + N) (by omega) (by omega)
      obtain ⟨hc8, A8, c8, e8, s8⟩ := seg_mid HSG.out k (k + 8) (by omega) (by omega)
      rw [show k + 12 + N - (k + 12) = N by omega] at e5 s5
      rw [show k + 8 - k = 8 by omega] at e8 s8
      have hs5 : ∀ w', (Instr.slice 22 (.slice A b.length c) (some (.int .i64 ((k : Int) + 12))) (some (.int .i64 ((k : Int) + 12 + (N : Int)))) none).run Tryz.prog w' = .ok (.slice A5 N c5) w' := fun w' => by
        have := slice_lh A b.length c (k + 12) (k + 12 + N) w' (by omega) hc5
        rwa [e5, show ((k + 12 : Nat) : Int) = (k : Int) + 12 by omega, show ((k + 12 + N : Nat) : Int) = (k : Int) + 12 + (N : Int) by omega] at this
      have hs8 : ∀ w', (Instr.slice 22 (.slice A b.length c) (some (.int .i64 (k : Int))) (some (.int .i64 ((k : Int) + 8))) none).run Tryz.prog w' = .ok (.slice A8 8 c8) w' := fun w' => by
        have := slice_lh A b.length c k (k + 8) w' (by omega) hc8
        rwa [e8, show ((k + 8 : Nat) : Int) = (k : Int) + 8 by omega] at this
      have HSUM : Hid (∀ X, Below wr.heap.size wr X → Calls Tryz.prog 32 #[.slice (some ⟨X.heap.size, 0, none⟩) 2 2] ((X.alloc (.cells #[.slice A8 8 c8, .slice A5 N c5] 22)).drew) fun e w' => e = .returned (.int .u32 (crc ((b.drop k).take 8 ++ (b.drop (k + 12)).take N) : Nat)) ∧ Hid (Below wr.heap.size wr w') ∧ w'.cell? ⟨Bn, 0, none⟩ = some (.slice A b.length c)) := Lib.hid fun X hX => by
        have r := RowsAt.fresh X [.slice A8 8 c8, .slice A5 N c5] #[.slice A8 8 c8, .slice A5 N c5] rfl [(b.drop k).take 8, (b.drop (k + 12)).take N] rfl (fun i hi => by
          simp at hi
          rcases (show i = 0 ∨ i = 1 by omega) with rfl | rfl
          · exact (s8.below hX).more hX.size
          · exact (s5.below hX).more hX.size) (by simp)
        refine (sum_any _ _ ((X.alloc (.cells #[.slice A8 8 c8, .slice A5 N c5] 22)).drew) r).mono ?_
        rintro e w' ⟨rfl, n, rfl⟩
        have hb2 : Below wr.heap.size wr (X.alloc (.cells #[.slice A8 8 c8, .slice A5 N c5] 22)) := hX.alloc hX.size _
        exact ⟨by simp, Lib.hid (below_drewN hb2.drew n), (hb2.cell (p := ⟨Bn, 0, none⟩) hBW).trans cB⟩
      obtain ⟨A9, c9, hs9, hv9⟩ := HVAL.out (k + 8) (by omega)
      rw [show ((k + 8 : Nat) : Int) = (k : Int) + 8 by omega] at hs9
      have HV9 := Lib.hid hv9
      obtain ⟨A0, c0, hs0, hv0⟩ := HVAL.out k (by omega)
      have HV0 := Lib.hid hv0
      have HE5 := Lib.hid e5
      clear hv9 hv0 s5 s8 e5 e8 HVAL
      have hC := crc_lt ((b.drop k).take 8 ++ (b.drop (k + 12)).take N)
      have hM := num4_lt (b.drop (k + 8))
      obtain ⟨C, hCe⟩ : ∃ C, C = crc ((b.drop k).take 8 ++ (b.drop (k + 12)).take N) := ⟨_, rfl⟩
      obtain ⟨M, hMe⟩ : ∃ M, M = num4 (b.drop (k + 8)) := ⟨_, rfl⟩
      rw [← hCe] at HSUM hC
      rw [← hMe] at HV9 hM
      have HCE := Lib.hid hCe; have HME := Lib.hid hMe
      clear hCe hMe
      gi_wp2_with (gi_at_call 76; refine (callsIn_wide.2 HV4.out).mono ?_; rintro e w1 ⟨rfl, HB1, cB1⟩)
      clear hs4 HV4 hs5 cB
      refine wpIn_wide.2 ?_
      have hw8 : IntKind.i64.wrap ((k : Int) + 8) = (k : Int) + 8 := IntWalk.i64_in _ (by omega)
      go_region_held3 (fun w' => w'.cell? ⟨Bn, 0, none⟩ = some (.slice A b.length c)) (first | go_keep | assumption) (first
        | (go_at_call 32; refine (HSUM.out w1 HB1.out).mono ?_; rintro e w2 ⟨rfl, HB2, cB2⟩)
        | (go_at_call 76; refine (HV9.out _ HB2.out).mono ?_; rintro e w3 ⟨rfl, HB3, cB3⟩))
      clear hw8 hs8 hs9 HSUM HV9 hd1 hd2
      have hJ3 := hJ _ _ _ none HJR.out ⟨HB3.out.os, HB3.out.tape, HB3.out.output, HB3.out.size, fun k hk _ => HB3.out.block k hk⟩ (fun r e => by cases e)
      have HJ3 := Lib.hid hJ3; clear hJ3
      by_cases hCM : C = M
      · have HX : Hid (frAt b k = some ⟨num4 (b.drop k), (b.drop (k + 12)).take N, k, k + 12 + N⟩) := Lib.hid (by
          unfold frAt
          rw [if_neg h12, ← HNE.out, if_neg (by omega), ← HCE.out, ← HME.out, if_neg (by simpa using hCM)])
        obtain ⟨f', rfl⟩ : ∃ f', f = f' + 1 := ⟨f - 1, by omega⟩
        obtain ⟨x0, hx0, hx1⟩ : ∃ x0 : FrOf b, x0.1 = ⟨num4 (b.drop k), (b.drop (k + 12)).take N, k, k + 12 + N⟩ ∧ frs b = (pre ++ [x0]) ++ frsF b f' (k + 12 + N) := ⟨⟨_, HX.out⟩, rfl, by rw [HP.out, frsF_some HX.out]; simp⟩
        have HP2 := Lib.hid hx1; clear hx1
        have hpre : pre.length < (frs b).length := by rw [HP2.out]; simp
        have hcm : ((C : Int) != (M : Int)) = false := by simp [hCM]
        have hG := num4_lt (b.drop k)
        obtain ⟨G, hGe⟩ : ∃ G, G = num4 (b.drop k) := ⟨_, rfl⟩
        rw [← hGe] at HV0 hG hx0
        have HGE := Lib.hid hGe; clear hGe
        have HX0 := Lib.hid hx0; clear hx0
        have HV0' := Lib.hid (HV0.out w3 HB3.out)
        have HCM := Lib.hid hCM
        clear hCM cB1 cB2 HV0
        gi_wp2_with (gi_at_call 76; refine (callsIn_wide.2 HV0'.out).mono ?_; rintro e w7 ⟨rfl, HB7, cB7⟩)
        have hJ7 := hJ _ _ _ none HJR.out ⟨HB7.out.os, HB7.out.tape, HB7.out.output, HB7.out.size, fun k hk _ => HB7.out.block k hk⟩ (fun r e => by cases e)
        obtain ⟨fn, tmps, assign, body, hy, hR⟩ := hY pre x0 w7 hJ7 hpre
        dsimp only [encFr] at hy
        rw [HX0.out] at hy
        simp only at hy
        rw [HE5.out, show ((k + 12 + N : Nat) : Int) = (k : Int) + 12 + (N : Int) by omega] at hy
        clear hJ7 cB7 cB3
        rw [hy, Oper.uponIn_round]
        refine ⟨(fun h => by cases h), ?_⟩
        refine hR.mono ?_
        rintro e W3 (⟨rfl, hJ3, hk3⟩ | ⟨rfl, hJx3⟩)
        · have HK3 : Hid (KpS K w W3) := Lib.hid ((HKr.out.t (KpS.below HB7.out (fun x hx => by have := HK.out x hx; have := HKr.out.1; omega))).t hk3)
          have hz3 : W.heap.size ≤ W3.heap.size := by have := hk3.1; have := HB7.out.size; omega
          clear hk3 hy hR
          gi_wp2
          go_roundw
          case rel => exact ⟨k + 12 + N, f', _, by omega, by omega, by go_num, HP2, HK3, hJ3, hz3⟩
          case measure => simp [intOf]; omega
        · clear hy hR
          gi_wp2
          refine bodyPost_ret (results_none rfl _ _ _) rfl ?_
          exact ⟨⟨_, rfl⟩, .inr ⟨_, ⟨_, HP2.out.symm⟩, hJx3⟩⟩
      · have HE : Hid (frs b = pre) := Lib.hid (by
          rw [HP.out, frsF_none (by unfold frAt; rw [if_neg h12, ← HNE.out, if_neg (by omega), ← HCE.out, ← HME.out, if_pos hCM])]; simp)
        have hcm : ((C : Int) != (M : Int)) = true := by simp; omega
        clear hCM
        gi_wp2
        refine bodyPost_ret (results_none rfl _ _ _) rfl ?_
        exact ⟨⟨_, rfl⟩, .inl (by first | exact ⟨pre, HE.out.symm, HJ3.out⟩ | (rw [HE.out]; exact HJ3.out))⟩
end Go.Proofs.YtpdelgjfamelfaaGreat
