/- great of the journal's laws. -/
import Derived.Test.YtpdelgjfamelfaaGreatJ18
namespace Go.Proofs.YtpdelgjfamelfaaGreat
open Go.RowKit Go.Lib Go.Vfs Go.Par Go.Shelf
set_option linter.unusedVariables false
set_option linter.unusedSimpArgs false

def sizeR (rs : List (List UInt8)) : Nat := (rs.map fun l => 1 + l.length).sum
def sizeG (rss : List (List (List UInt8))) : Nat := (rss.map sizeR).sum
theorem sizeR_succ (rs : List (List UInt8)) (k : Nat) (h : k < rs.length) : sizeR (rs.take (k + 1)) = sizeR (rs.take k) + (1 + (rs.getD k []).length) := by
  unfold sizeR
  rw [List.take_succ_eq_append_getElem h, List.map_append, List.sum_append]
  simp [List.getD_eq_getElem?_getD, h]
theorem sizeG_succ (rss : List (List (List UInt8))) (k : Nat) (h : k < rss.length) : sizeG (rss.take (k + 1)) = sizeG (rss.take k) + sizeR (rss.getD k []) := by
  unfold sizeG
  rw [List.take_succ_eq_append_getElem h, List.map_append, List.sum_append]
  simp [List.getD_eq_getElem?_getD, h]
theorem sizeR_le (B : Nat) : ∀ rs : List (List UInt8), (∀ l ∈ rs, l.length ≤ B) → sizeR rs ≤ rs.length * (1 + B)
  | [], _ => by simp [sizeR]
  | l :: rs, h => by
    have := sizeR_le B rs fun x hx => h x (by simp [hx])
    have := h l (by simp)
    have e : sizeR (l :: rs) = (1 + l.length) + sizeR rs := rfl
    rw [e, List.length_cons, Nat.succ_mul]
    omega
theorem sizeG_le (C : Nat) : ∀ rss : List (List (List UInt8)), (∀ rs ∈ rss, sizeR rs ≤ C) → sizeG rss ≤ rss.length * C
  | [], _ => by simp [sizeG]
  | r :: rss, h => by
    have := sizeG_le C rss fun x hx => h x (by simp [hx])
    have := h r (by simp)
    have e : sizeG (r :: rss) = sizeR r + sizeG rss := rfl
    rw [e, List.length_cons, Nat.succ_mul]
    omega
theorem sizeR_mono (rs : List (List UInt8)) (k : Nat) : sizeR (rs.take k) ≤ sizeR rs := by
  have e : sizeR rs = sizeR (rs.take k) + sizeR (rs.drop k) := by
    unfold sizeR
    rw [← List.sum_append, ← List.map_append, List.take_append_drop]
  omega
/-- a few steps in memory: their rows. -/
def SegG (w : World) (g : Nat) (rss : List (List (List UInt8))) : Prop := ∀ k, k < rss.length → ∃ (A : Option Addr) (c : Nat), w.cell? ⟨g, k * 4 + 2, none⟩ = some (.slice A (rss.getD k []).length c) ∧ RowsAt (· < w.heap.size) w (.slice A (rss.getD k []).length c) (rss.getD k [])

set_option maxRecDepth 20000 in
set_option maxHeartbeats 2000000 in
theorem great_few (g m : Nat) (rss : List (List (List UInt8))) (hm : rss.length = m) (hm2 : m ≤ 2) (w : World) (hg : g < w.heap.size) (hs : SegG w g rss) (hf : ∀ rs ∈ rss, rs.length ≤ 60 ∧ ∀ l ∈ rs, l.length ≤ 140737488351232) :
    Calls Tryz.prog 22 #[.slice (some ⟨g, 0, none⟩) m m] w fun e w' => e = .returned (.bool (decide (5000 < sizeG rss))) ∧ w = w' := by
  have hR : ∀ rs ∈ rss, sizeR rs ≤ 60 * (1 + 140737488351232) := fun rs hrs => Nat.le_trans (sizeR_le _ rs (hf rs hrs).2) (Nat.mul_le_mul_right _ (hf rs hrs).1)
  have hG : ∀ k, sizeG (rss.take k) ≤ 2 * (60 * (1 + 140737488351232)) := fun k => by
    refine Nat.le_trans (sizeG_le _ (rss.take k) fun rs hrs => hR rs (List.mem_of_mem_take hrs)) (Nat.mul_le_mul_right _ ?_)
    simp; omega
  have HS := Lib.hid hs; have HF := Lib.hid hf; have HR := Lib.hid hR; have HG := Lib.hid hG; have HM := Lib.hid hm
  clear hs hf hR hG hm
  go_enter Tryz.func22, Tryz.ntmps22
  go_wp2
  go_loopw [3, 4] (fun n i wr => ∃ k S : Nat, k ≤ m ∧ i = .int .i64 k ∧ n = .int .i64 S ∧ Hid (S = sizeG (rss.take k)) ∧ w = wr) (fun _ i _ => m - (intOf i).toNat)
  case atStart => exact ⟨0, 0, by omega, rfl, rfl, Lib.hid rfl, rfl⟩
  case round =>
    obtain ⟨k, S, hk, rfl, rfl, HK, rfl⟩ := hrel
    by_cases hlt : k < m
    · have hlt' : k < rss.length := by rw [HM.out]; exact hlt
      obtain ⟨A, c, hcell, hrows⟩ := HS.out k hlt'
      have hmem : rss.getD k [] ∈ rss := by rw [List.getD_eq_getElem?_getD, List.getElem?_eq_getElem hlt']; exact List.getElem_mem hlt'
      have HMF := Lib.hid (HF.out _ hmem)
      have HSG := Lib.hid (sizeG_succ rss k hlt')
      have hS1 := HG.out k
      have hS2 := HG.out (k + 1)
      generalize rss.getD k [] = rs at *
      obtain ⟨A', c', he, hc1, hm1, HRW⟩ := hrows.open_
      cases he
      have HS1 := Lib.hid (And.intro hS1 hS2)
      clear hrows hmem hS1 hS2 hlt'
      have hrl : rs.length ≤ 60 := HMF.out.1
      go_wp2
      go_loopw [3, 5] (fun n j wx => ∃ i T : Nat, i ≤ rs.length ∧ j = .int .i64 i ∧ n = .int .i64 T ∧ Hid (T = S + sizeR (rs.take i)) ∧ w = wx) (fun _ j _ => rs.length - (intOf j).toNat)
      case atStart => exact ⟨0, S, by omega, rfl, rfl, Lib.hid (by simp [sizeR]), rfl⟩
      case round =>
        obtain ⟨i, T, hi, rfl, rfl, HT, rfl⟩ := hrel
        by_cases hil : i < rs.length
        · obtain ⟨b, off, Ak, ck, rfl, hb, hc2, -⟩ := HRW.out _ (Below.refl _ _) i hil
          have HX := Lib.hid (sizeR_succ rs i hil)
          have hL : (rs.getD i []).length ≤ 140737488351232 := by
            rw [List.getD_eq_getElem?_getD, List.getElem?_eq_getElem hil]
            exact HMF.out.2 _ (List.getElem_mem hil)
          have hT : T ≤ 2 * (60 * (1 + 140737488351232)) := by
            have h1 := HT.out; have h2 := HS1.out.2; have h3 := HSG.out; have h4 := sizeR_mono rs i; have h5 := HK.out
            omega
          generalize rs.getD i [] = L at *
          go_wp2
          go_roundw
          case rel => exact ⟨i + 1, T + (1 + L.length), by omega, by go_num, by go_num, Lib.hid (by rw [HX.out, HT.out]; omega), trivial⟩
          case measure => simp [intOf]; omega
        · have hie : i = rs.length := by omega
          have HTE : Hid (T = sizeG (rss.take (k + 1))) := Lib.hid (by rw [HSG.out, HT.out, HK.out, hie, List.take_length])
          clear hie
          go_wp2
          go_roundw
          case rel => exact ⟨k + 1, T, by omega, by go_num, rfl, HTE, trivial⟩
          case measure => simp [intOf]; omega
    · have hkm : k = m := by omega
      have HE : Hid (decide (5000 < sizeG rss) = decide ((5000 : Int) < (S : Int))) := Lib.hid (by
        have : S = sizeG rss := by rw [HK.out, hkm, ← HM.out, List.take_length]
        rw [← this, decide_eq_decide]
        omega)
      clear hkm
      go_wp2
      go_ret
      exact ⟨by rw [HE.out]; rfl, rfl⟩

set_option maxRecDepth 20000 in
set_option maxHeartbeats 2000000 in
theorem great_many (g m : Nat) (rss : List (List (List UInt8))) (hm : rss.length = m) (hm2 : m ≤ 2) (w : World) (hg : g < w.heap.size) (hs : SegG w g rss) (hf : ∀ rs ∈ rss, RowsOk rs) :
    Calls Tryz.prog 22 #[.slice (some ⟨g, 0, none⟩) m m] w fun e w' => (∃ b, e = .returned (.bool b)) ∧ w = w' := by
  have HS := Lib.hid hs; have HF := Lib.hid hf; have HM := Lib.hid hm
  clear hs hf hm
  go_enter Tryz.func22, Tryz.ntmps22
  go_wp2
  go_loopw [3, 4] (fun n i wr => ∃ (k : Nat) (z : Int), k ≤ m ∧ i = .int .i64 k ∧ n = .int .i64 z ∧ w = wr) (fun _ i _ => m - (intOf i).toNat)
  case atStart => exact ⟨0, 0, by omega, rfl, rfl, rfl⟩
  case round =>
    obtain ⟨k, z, hk, rfl, rfl, rfl⟩ := hrel
    by_cases hlt : k < m
    · have hlt' : k < rss.length := by rw [HM.out]; exact hlt
      obtain ⟨A, c, hcell, hrows⟩ := HS.out k hlt'
      have hmem : rss.getD k [] ∈ rss := by rw [List.getD_eq_getElem?_getD, List.getElem?_eq_getElem hlt']; exact List.getElem_mem hlt'
      have HMF := Lib.hid (HF.out _ hmem)
      generalize rss.getD k [] = rs at *
      obtain ⟨A', c', he, hc1, hm1, HRW⟩ := hrows.open_
      cases he
      clear hrows hmem hlt'
      have hrl : rs.length ≤ 140737488351232 := HMF.out.1
      go_wp2
      go_loopw [3, 5] (fun n j wx => ∃ (i : Nat) (z : Int), i ≤ rs.length ∧ j = .int .i64 i ∧ n = .int .i64 z ∧ w = wx) (fun _ j _ => rs.length - (intOf j).toNat)
      case atStart => exact ⟨0, z, by omega, rfl, rfl, rfl⟩
      case round =>
        obtain ⟨i, y, hi, rfl, rfl, rfl⟩ := hrel
        by_cases hil : i < rs.length
        · obtain ⟨b, off, Ak, ck, rfl, hb, hc2, -⟩ := HRW.out _ (Below.refl _ _) i hil
          have hL : (rs.getD i []).length ≤ 140737488351232 := by
            rw [List.getD_eq_getElem?_getD, List.getElem?_eq_getElem hil]
            exact HMF.out.2 _ (List.getElem_mem hil)
          generalize rs.getD i [] = L at *
          go_wp2
          go_roundw
          case rel => exact ⟨i + 1, _, by omega, by go_num, rfl, trivial⟩
          case measure => simp [intOf]; omega
        · go_wp2
          go_roundw
          case rel => exact ⟨k + 1, y, by omega, by go_num, rfl, trivial⟩
          case measure => simp [intOf]; omega
    · go_wp2
      go_ret
      exact ⟨⟨_, rfl⟩, rfl⟩
end Go.Proofs.YtpdelgjfamelfaaGreat
