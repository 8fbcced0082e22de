import Derived.Test.YtpdelgjfamelfaaV21
namespace Go.Proofs.Ytpdelgjfamelfaa
open Go.RowKit Go.Lib Go.Vfs Go.Par
set_option linter.unusedVariables false

def sizeP (ls : List (List UInt8)) : Nat := (ls.map fun l => 1 + l.length).sum
def sizeO (os : List OpR) : Nat := (os.map fun o => sizeP o.parts).sum
theorem sizeP_succ (ls : List (List UInt8)) (k : Nat) (h : k < ls.length) : sizeP (ls.take (k + 1)) = sizeP (ls.take k) + (1 + (ls.getD k []).length) := by
  unfold sizeP
  rw [List.take_succ_eq_append_getElem h, List.map_append, List.sum_append, List.getD_eq_getElem?_getD, List.getElem?_eq_getElem h]
  simp
theorem sizeO_succ (os : List OpR) (k : Nat) (h : k < os.length) : sizeO (os.take (k + 1)) = sizeO (os.take k) + sizeP os[k].parts := by
  unfold sizeO
  rw [List.take_succ_eq_append_getElem h, List.map_append, List.sum_append]
  simp
theorem sum_take_le (l : List Nat) (k : Nat) : (l.take k).sum ≤ l.sum := by
  have := congrArg List.sum (List.take_append_drop k l)
  rw [List.sum_append] at this
  omega
theorem sizeP_take (ls : List (List UInt8)) (k : Nat) : sizeP (ls.take k) ≤ sizeP ls := by
  unfold sizeP
  rw [List.map_take]
  exact sum_take_le _ _
theorem sizeO_take (os : List OpR) (k : Nat) : sizeO (os.take k) ≤ sizeO os := by
  unfold sizeO
  rw [List.map_take]
  exact sum_take_le _ _

set_option maxRecDepth 20000 in
set_option maxHeartbeats 1000000 in
theorem great_any (v : Value) (os : List OpR) (B : Nat) (w : World) (h : SegO w B v os) (hs : sizeO os ≤ 2147483648) :
    Calls Try.prog 23 #[v] w fun e w' => e = .returned (.bool (decide (5000 < sizeO os))) ∧ ∃ n, w' = w.drewN n := by
  have h0 := h
  obtain ⟨A, c, rfl, h2, h3, -, -⟩ := h
  have H := Lib.hid h0; clear h0
  have HS := Lib.hid hs; clear hs
  go_enter Try.func23, Try.ntmps23
  go_wp2
  go_loopw [3, 4] (fun s i wr => ∃ k n : Nat, k ≤ os.length ∧ s = .int .i64 (sizeO (os.take k)) ∧ i = .int .i64 k ∧ wr = w.drewN n) (fun _ i _ => os.length - (intOf i).toNat)
  case atStart => exact ⟨0, 0, by omega, rfl, rfl, rfl⟩
  case round =>
    obtain ⟨k, n, hk, rfl, rfl, rfl⟩ := hrel
    by_cases hlt : k < os.length
    · obtain ⟨A', c', e, -, -, hop, hcl⟩ := H.out
      injection e with e1 e2 e3
      subst e1 e3
      obtain ⟨b, off, rfl, hb, hc6⟩ := hcl k hlt
      have hc4 : w.cell? ⟨b, off + k * 6 + 4, none⟩ = some os[k].pv := hc6 4 (by omega)
      obtain ⟨vs, hvl, ⟨A2, c2, hpv, hvc, hvm, hva⟩, hve⟩ := (hop os[k] (List.getElem_mem hlt)).rows
      have HE := Lib.hid (sizeO_succ os k hlt)
      have HT := Lib.hid (sizeO_take os (k + 1))
      generalize os[k].parts = ps at *
      rw [hpv] at hc4
      have HVE := Lib.hid hve; have HVA := Lib.hid hva; have HVL := Lib.hid hvl
      clear hop hcl hc6 hpv hve hva hvl
      have hvm' : c2 ≤ 9223372036854775807 := by simpa [maxLen] using hvm
      go_wp2
      go_loopw [3, 5] (fun s i wr => ∃ j m : Nat, j ≤ vs.length ∧ s = .int .i64 ((sizeO (os.take k) + sizeP (ps.take j) : Nat) : Int) ∧ i = .int .i64 j ∧ wr = w.drewN m) (fun _ i _ => vs.length - (intOf i).toNat)
      case atStart => exact ⟨0, n, by omega, by simp [sizeP], rfl, rfl⟩
      case round =>
        obtain ⟨j, m, hj, rfl, rfl, rfl⟩ := hrel
        by_cases hjl : j < vs.length
        · obtain ⟨b2, off2, rfl, hb2, hcj⟩ := HVA.out (by omega)
          replace hcj := hcj j hjl
          have hvj := HVE.out j (by rw [← HVL.out]; exact hjl)
          have HP := Lib.hid (sizeP_succ ps j (by rw [← HVL.out]; exact hjl))
          have HPT := Lib.hid (sizeP_take ps (j + 1))
          rw [List.getElem?_eq_getElem hjl] at hcj
          have hget : vs.getD j (.bool false) = vs[j] := by simp [List.getD_eq_getElem?_getD, List.getElem?_eq_getElem hjl]
          rw [hget] at hvj
          obtain ⟨A3, c3, hv3, -⟩ := hvj
          rw [byteCells_length] at hv3
          rw [hv3] at hcj
          generalize ps.getD j [] = L at *
          have h1 := HS.out; have h2' := HE.out; have h3' := HT.out; have h4 := HP.out; have h5 := HPT.out
          clear hv3 hget
          go_wp2
          go_roundw
          case rel => exact ⟨j + 1, m, by omega, by congr 1; omega, by go_num, rfl⟩
          case measure => simp [intOf]; omega
        · have hje : j = vs.length := by omega
          have h6 : sizeP (ps.take j) = sizeP ps := by rw [List.take_of_length_le (by rw [← HVL.out]; omega)]
          have h2' := HE.out; have h1 := HS.out; have h3' := HT.out
          go_wp2
          go_roundw
          case rel => exact ⟨k + 1, m, by omega, by congr 1; omega, by go_num, rfl⟩
          case measure => simp [intOf]; omega
    · have hke : os.take k = os := List.take_of_length_le (by omega)
      rw [hke]
      have h1 := HS.out
      have hkl : k = os.length := by omega
      clear hke
      subst hkl
      go_wp2
      go_ret
      refine ⟨ret_bool ?_, _, rfl⟩
      simp
      omega
end Go.Proofs.Ytpdelgjfamelfaa
