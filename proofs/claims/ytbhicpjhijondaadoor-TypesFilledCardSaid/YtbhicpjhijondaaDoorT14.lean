/- say. -/
import Derived.Test.YtbhicpjhijondaaDoorT13
namespace Go.Typ
theorem fits_kinds {T : Ty} (h : fitsT T = true) : (T.kind = 1 ∧ 0 ≤ T.num ∧ T.num < 1073741824 ∧ T.name.toList = [] ∧ T.args.length = 0) ∨ (T.kind = 2 ∧ T.num = 0 ∧ nameOk T.name.data.toList = true) ∨
    (T.kind = 3 ∧ T.num = 0 ∧ T.name.toList = [] ∧ 2 ≤ T.args.length) ∨ (T.kind = 4 ∧ T.num = 0 ∧ T.name.toList = [] ∧ T.args.length = 2) := by
  unfold fitsT at h
  simp only [Bool.or_eq_true, Bool.and_eq_true, decide_eq_true_iff] at h
  rcases h with ((⟨h1, ⟨⟨⟨h2, h3⟩, h4⟩, h5⟩⟩ | ⟨h1, h2, h3⟩) | ⟨h1, ⟨h2, h3⟩, h4⟩) | ⟨h1, ⟨h2, h3⟩, h4⟩
  · exact .inl ⟨h1, h2, h3, h4, h5⟩
  · exact .inr (.inl ⟨h1, h2, h3⟩)
  · exact .inr (.inr (.inl ⟨h1, h2, h3, h4⟩))
  · exact .inr (.inr (.inr ⟨h1, h2, h3, h4⟩))
theorem sayT_var {T : Ty} (h : T.kind = 1) : sayT T = varW T.num := by
  cases T; simp only [Ty.kind] at h; subst h; simp [sayT, Ty.num]
theorem sayT_pair {T : Ty} (h : T.kind = 3) : sayT T = joinW [32, 42, 32] (T.args.map insT) := by
  cases T; simp only [Ty.kind] at h; subst h; simp [sayT, Ty.args, insW_map]
theorem sayT_con {T : Ty} (h : T.kind = 2) : sayT T = (if T.args.length = 1 then joinW [] (T.args.map insT) else if T.args.length = 0 then [] else [40] ++ joinW [44, 32] (T.args.map sayT) ++ [41]) ++ (if T.args.length = 0 then [] else [32]) ++ T.name.data.toList := by
  cases T; simp only [Ty.kind] at h; subst h; rw [sayT, if_neg (by decide), if_pos rfl, insW_map, sayL_map]; rfl
theorem sayT_arrow {T : Ty} (h : T.kind = 4) (h2 : T.args.length = 2) : sayT T = wrapB (decide ((T.args[0]'(by omega)).kind = 4)) (sayT (T.args[0]'(by omega))) ++ ([32, 45, 62, 32] : List UInt8) ++ sayT (T.args[1]'(by omega)) := by
  cases T with
  | mk k n s ts =>
    simp only [Ty.kind] at h; subst h
    simp only [Ty.args] at h2 ⊢
    match ts, h2 with
    | [x, y], _ => rw [sayT, if_neg (by decide), if_neg (by decide), if_neg (by decide), if_pos rfl, sayL, sayL, sayL]; rfl
theorem joinW_len_mem {sep : List UInt8} : ∀ {ws : List (List UInt8)} {k : Nat}, k < ws.length → (joinW sep (ws.take k)).length + (if k = 0 then [] else sep).length + (ws.getD k []).length ≤ (joinW sep ws).length := by
  intro ws k hk
  have h := joinW_take sep ws hk
  have hle : (joinW sep (ws.take (k + 1))).length ≤ (joinW sep ws).length := by
    cases ws with
    | nil => simp at hk
    | cons x xs =>
      rw [List.take_succ_cons, joinW, joinW, List.length_append, List.length_append]
      have : (xs.take k).flatMap (fun y => sep ++ y) <+: xs.flatMap (fun y => sep ++ y) := by
        refine ⟨(xs.drop k).flatMap (fun y => sep ++ y), ?_⟩
        rw [← List.flatMap_append, List.take_append_drop]
      have := this.length_le
      omega
  rw [h, List.length_append, List.length_append] at hle
  rw [List.getD_eq_getElem?_getD, List.getElem?_eq_getElem hk]
  simp only [Option.getD_some]
  omega
end Go.Typ
namespace Go.Proofs.YtbhicpjhijondaaDoor
open Go.RowKit Go.Lib Go.Vfs Go.Par Go.Typ Go.Shelf
set_option linter.unusedVariables false
set_option linter.unusedSimpArgs false

set_option maxRecDepth 20000 in
set_option maxHeartbeats 2000000 in
theorem say_var (T : Ty) (h1 : T.kind = 1) (hn0 : 0 ≤ T.num) (hn1 : T.num < 1073741824) : SayC T := by
  intro B b v l W hT h hB htb hg hl
  rw [sayT_var h1] at hl ⊢
  obtain ⟨A, c, rfl, hc, hm, hn⟩ := hT.form
  obtain ⟨W1, hW1⟩ : ∃ W1, W1 = W.alloc (.cells #[.int .i64 T.kind, .int .i64 T.num, .string T.name, .slice A T.args.length c] 24) := ⟨_, rfl⟩
  have hb1 : Below W.heap.size W W1 := by rw [hW1]; exact (Below.refl _ _).alloc (Nat.le_refl _) _
  have hs1 : SB B b W l W1 := (SB.refl h hB).new hb1
  have HBX : Hid (W1.heap[W.heap.size]? = some (.cells #[.int .i64 T.kind, .int .i64 T.num, .string T.name, .slice A T.args.length c] 24 (0, 0))) := Lib.hid (by rw [hW1]; exact heap_alloc_new _ _)
  have hbn : W.heap.size ≠ b := by have := (SB.refl h hB).blt; omega
  have HS1 := Lib.hid hs1; have HTB := Lib.hid htb
  clear hT hs1 htb h hc hm hn
  have hlv : (varW T.num).length ≤ 140737488355000 := by omega
  have hlen : l.length + 2 ≤ 140737488355000 := by have : 2 ≤ (varW T.num).length := (by unfold varW; simp); omega
  obtain ⟨c8, hc8⟩ : ∃ c8 : UInt8, c8 = UInt8.ofNat (97 + T.num.toNat % 26) := ⟨_, rfl⟩
  have hx8 : (97 + T.num % 26 : Int) = (c8.toNat : Int) := by
    rw [hc8]
    simp
    omega
  have HW := Lib.hid (writeByte_s B b l 39 39 rfl W1 HS1.out.bld HS1.out.le (by omega))
  have HL := Lib.hid hl
  have HV : Hid (varW T.num = [39, c8] ++ (if 26 ≤ T.num then Lib.itoa (T.num / 26) else [])) := Lib.hid (by rw [hc8]; rfl)
  clear hl hc8
  unfold tyV
  rw [h1] at hW1 HBX ⊢
  rw [hW1] at HW
  go_enter Tryd.func56, Tryd.ntmps56
  go_wp2_with fail
  refine HW.out.mono ?_
  rintro e w2 ⟨rfl, H2⟩
  rw [← hW1] at H2
  have HS2 := Lib.hid (HS1.out.t H2)
  have HBX2 := Lib.hid (H2.at HBX.out (by decide) hbn)
  obtain ⟨y0, y1, y2, y3⟩ := box4 HBX2.out
  clear H2
  go_wp2_with fail
  have hl2 : (l ++ [39]).length = l.length + 1 := by simp
  have HW2 := Lib.hid (writeByte_s B b (l ++ [39]) c8 _ rfl w2 HS2.out.bld HS2.out.le (by omega))
  refine HW2.out.mono ?_
  rintro e w3 ⟨rfl, H3⟩
  have HS3 := Lib.hid (HS2.out.t H3)
  have HBX3 := Lib.hid (H3.at HBX2.out (by decide) hbn)
  clear y0 y1 y2 y3 H3
  obtain ⟨y0, y1, y2, y3⟩ := box4 HBX3.out
  have hl3 : (l ++ [39] ++ [c8]).length = l.length + 2 := by simp
  by_cases h26 : 26 ≤ T.num
  · have hv := HV.out
    rw [if_pos h26] at hv
    have hvl : (varW T.num).length = 2 + (Lib.itoa (T.num / 26)).length := by rw [hv]; simp; omega
    have HI := Lib.hid (itoa_s (T.num / 26) (by omega) (by omega) w3 (HS3.out.tb HTB.out hg))
    have HVV := Lib.hid hv
    obtain ⟨it, hit⟩ : ∃ it, it = Lib.itoa (T.num / 26) := ⟨_, rfl⟩
    rw [← hit] at HI hvl HVV
    clear hv hit
    have HLL := HL.out
    go_wp2_with (go_at_call 84; refine HI.out.mono ?_; rintro e w4 ⟨rfl, HB4⟩; have HS4 := Lib.hid (HS3.out.new HB4))
    have HW5 := Lib.hid (writeString_s B b (l ++ [39] ++ [c8]) ⟨it.toArray⟩ w4 HS4.out.bld HS4.out.le (by show _ + it.toArray.size ≤ _; simp only [List.size_toArray]; omega))
    refine HW5.out.mono ?_
    rintro e w5 ⟨⟨v5, rfl⟩, H5⟩
    have HS5 := Lib.hid (HS4.out.t H5)
    clear H5
    go_wp2
    go_end0
    refine ⟨rfl, ?_⟩
    rw [HVV.out, show l ++ ([39, c8] ++ it) = l ++ [39] ++ [c8] ++ (⟨it.toArray⟩ : ByteArray).data.toList from by simp]
    exact HS5.out
  · have hv := HV.out
    rw [if_neg h26] at hv
    have HVV := Lib.hid hv
    clear hv
    go_wp2
    go_end0
    refine ⟨rfl, ?_⟩
    rw [HVV.out, show l ++ ([39, c8] ++ []) = l ++ [39] ++ [c8] from by simp]
    exact HS3.out
end Go.Proofs.YtbhicpjhijondaaDoor
