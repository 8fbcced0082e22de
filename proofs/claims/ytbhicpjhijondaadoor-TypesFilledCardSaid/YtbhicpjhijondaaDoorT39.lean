/- law12.great: the walk; what is not great: plain. -/
import Derived.Test.YtbhicpjhijondaaDoorT38
namespace Go.Proofs.YtbhicpjhijondaaDoor
open Go.RowKit Go.Lib Go.Vfs Go.Par Go.Typ Go.Shelf
set_option linter.unusedVariables false
set_option linter.unusedSimpArgs false

/-- is it not too heavy? -/
def lightT (T : Ty) : Bool := decide (weightT T 1000 ≤ 1000)
theorem weightL_light : ∀ (ts : List Ty), (∀ t ∈ ts, ∀ most : Int, weightT t most ≤ most → (t.parts : Int) ≤ weightT t most ∧ NmB (16 * (weightT t most).toNat) t) → ∀ (most n : Int), 0 ≤ n → weightL ts most n ≤ most →
    n + partsL ts ≤ weightL ts most n ∧ ∀ t ∈ ts, NmB (16 * (weightL ts most n).toNat) t
  | [], _, most, n, h0, h => by
    simp only [weightL, partsL]
    exact ⟨by omega, fun t ht => by simp at ht⟩
  | t :: ts, hi, most, n, h0, h => by
    simp only [weightL, partsL] at h ⊢
    by_cases hn : n ≤ most
    · rw [if_pos hn] at h ⊢
      by_cases hw : weightT t (most - n) ≤ most - n
      · obtain ⟨a1, a2⟩ := hi t List.mem_cons_self _ hw
        have ht0 := t.parts_pos
        obtain ⟨b1, b2⟩ := weightL_light ts (fun u hu => hi u (List.mem_cons_of_mem _ hu)) most (n + weightT t (most - n)) (by omega) h
        refine ⟨by push_cast; omega, fun u hu => ?_⟩
        rcases List.mem_cons.1 hu with rfl | hu
        · exact fun x hx => Nat.le_trans (a2 x hx) (by omega)
        · exact b2 u hu
      · rw [weightL_stop (by omega)] at h
        omega
    · rw [if_neg hn] at h
      omega
theorem weightT_light (T : Ty) : ∀ most : Int, weightT T most ≤ most → (T.parts : Int) ≤ weightT T most ∧ NmB (16 * (weightT T most).toNat) T := by
  induction T using Ty.ind with
  | h T ih =>
    intro most h
    rw [weightT_eq] at h ⊢
    obtain ⟨h1, h2⟩ := weightL_light T.args (fun t ht => by obtain ⟨i, hi, rfl⟩ := List.getElem_of_mem ht; exact ih i hi) most (1 + (T.name.size : Int) / 16) (by omega) h
    rw [T.parts_eq]
    refine ⟨by push_cast; omega, ?_⟩
    have key : NmB (16 * (weightL T.args most (1 + (T.name.size : Int) / 16)).toNat) (.mk T.kind T.num T.name T.args) := NmB.mk (by omega) h2
    rw [← T.eta] at key
    exact key
theorem light_parts {T : Ty} (h : lightT T = true) : T.parts ≤ 1000 ∧ NmB 16000 T := by
  have h := of_decide_eq_true h
  obtain ⟨h1, h2⟩ := weightT_light T 1000 h
  exact ⟨by omega, fun x hx => Nat.le_trans (h2 x hx) (by omega)⟩
theorem light_say {T : Ty} (h : lightT T = true) (hr : rightT T = true) : (sayT T).length ≤ 6000000 := by
  obtain ⟨hp, hF⟩ := rightT_iff.1 hr
  have := say_le 16000 T hF (light_parts h).2
  have h2 : T.parts * (16000 + 40) ≤ 300 * (16000 + 40) := Nat.mul_le_mul_right _ hp
  omega

set_option maxRecDepth 20000 in
set_option maxHeartbeats 1000000 in
theorem great12_any (T : Ty) (v : Value) (w : World) (hT : TyAt (· < w.heap.size) w v T) :
    Calls Tryd.prog 16 #[v] w fun e w' => e = .returned (.bool (!lightT T)) ∧ Below w.heap.size w w' := by
  obtain ⟨A, c, rfl, hc, hm, hn⟩ := hT.form
  obtain ⟨W1, hW1⟩ : ∃ W1, W1 = w.alloc (.cells #[.int .i64 T.kind, .int .i64 T.num, .string T.name, .slice A T.args.length c] 24) := ⟨_, rfl⟩
  have hb1 : Below w.heap.size w W1 := by rw [hW1]; exact (Below.refl _ _).alloc (Nat.le_refl _) _
  have HW := Lib.hid (weight_any T _ 1000 W1 (hT.blw hb1) (by decide) (by decide))
  have HB1 := Lib.hid hb1
  obtain ⟨y0, y1, y2, y3⟩ := box4 (show W1.heap[w.heap.size]? = some (.cells #[.int .i64 T.kind, .int .i64 T.num, .string T.name, .slice A T.args.length c] 24 (0, 0)) by rw [hW1]; exact heap_alloc_new _ _)
  have hle : (!lightT T) = decide (1000 < weightT T 1000) := by
    unfold lightT
    rw [← decide_not]
    exact decide_eq_decide.2 Int.not_le
  rw [hle]
  rw [hW1] at y0 y1 y2 y3
  clear hle hT hc hm hn hb1
  unfold tyV at HW ⊢
  go_enter Tryd.func16, Tryd.ntmps16
  go_wp2_with fail
  rw [← hW1]
  clear hW1 y0 y1 y2 y3
  refine HW.out.mono ?_
  rintro e w1 ⟨rfl, hb⟩
  have HB := Lib.hid (HB1.out.trans (hb.mono HB1.out.size))
  clear hb
  go_wp2
  go_ret
  exact ⟨rfl, HB.out⟩
end Go.Proofs.YtbhicpjhijondaaDoor
