/- say: pairs. -/
import Derived.Test.YtbhicpjhijondaaDoorT14
namespace Go.Proofs.YtbhicpjhijondaaDoor
open Go.RowKit Go.Lib Go.Vfs Go.Par Go.Typ Go.Shelf
set_option linter.unusedVariables false
set_option linter.unusedSimpArgs false

set_option maxRecDepth 20000 in
set_option maxHeartbeats 2000000 in
theorem say_pair (T : Ty) (ih : ∀ i (hi : i < T.args.length), SayC T.args[i]) (h1 : T.kind = 3) : SayC T := by
  intro B b v l W hT h hB htb hg hl
  rw [sayT_pair h1] at hl ⊢
  obtain ⟨A, c, rfl, hc, hm, hn⟩ := hT.form
  have hla : T.args.length ≤ 9223372036854775807 := by simp only [maxLen] at hm; omega
  obtain ⟨W1, hW1⟩ : ∃ W1, W1 = W.alloc (.cells #[.int .i64 T.kind, .int .i64 T.num, .string T.name, .slice A T.args.length c] 24) := ⟨_, rfl⟩
  have hb1 : Below W.heap.size W W1 := by rw [hW1]; exact (Below.refl _ _).alloc (Nat.le_refl _) _
  have hs1 : SB B b W l W1 := (SB.refl h hB).new hb1
  have HS1 := Lib.hid hs1; have HTB := Lib.hid htb; have HT := Lib.hid hT; have IH := Lib.hid ih; have HL := Lib.hid hl
  clear hT hs1 htb h hc hm hn ih hl hb1
  unfold tyV
  rw [h1] at hW1 ⊢
  go_enter Tryd.func56, Tryd.ntmps56
  go_wp2
  rw [← hW1]
  go_loopw [93] (fun iv wr => ∃ (k : Nat), k ≤ T.args.length ∧ iv = .int .i64 k ∧ Hid (SB B b W (l ++ joinW [32, 42, 32] ((T.args.map insT).take k)) wr)) (fun iv _ => T.args.length - (RowKit.intOf iv).toNat)
  case atStart => exact ⟨0, by omega, rfl, Lib.hid (by simpa [joinW] using HS1.out)⟩
  case round =>
    obtain ⟨k, hk, rfl, HR⟩ := hrel
    by_cases hlt : k < T.args.length
    · obtain ⟨bb, off, A', c', rfl, hbb, ht, x0, x1, x2, x3⟩ := (HR.out.ty HT.out).arg hlt
      have HSC := Lib.hid (IH.out k hlt)
      have hlm : k < (T.args.map insT).length := by rw [List.length_map]; exact hlt
      have htk := joinW_take [32, 42, 32] (T.args.map insT) hlm
      rw [List.getElem_map] at htk
      have hln := joinW_len_mem (sep := [32, 42, 32]) hlm
      rw [List.getD_eq_getElem?_getD, List.getElem?_eq_getElem hlm, List.getElem_map, Option.getD_some] at hln
      have HT0 := Lib.hid ht
      have HTK := Lib.hid htk; have HLN := Lib.hid hln
      clear ht htk hln
      generalize T.args[k] = U at *
      obtain ⟨l1, hl1⟩ : ∃ l1, l1 = l ++ joinW [32, 42, 32] ((T.args.map insT).take k) := ⟨_, rfl⟩
      obtain ⟨W2, hW2⟩ : ∃ W2, W2 = wr.alloc (.cells #[.int .i64 U.kind, .int .i64 U.num, .string U.name, .slice A' U.args.length c'] 24) := ⟨_, rfl⟩
      have hb2 : Below wr.heap.size wr W2 := by rw [hW2]; exact (Below.refl _ _).alloc (Nat.le_refl _) _
      have HR2 := Lib.hid (HR.out.new hb2)
      rw [← hl1] at HR2
      have hbn : wr.heap.size ≠ b := by have := HR.out.blt; omega
      have HBX : Hid (W2.heap[wr.heap.size]? = some (.cells #[.int .i64 U.kind, .int .i64 U.num, .string U.name, .slice A' U.args.length c'] 24 (0, 0))) := Lib.hid (by rw [hW2]; exact heap_alloc_new _ _)
      have hls : l1.length + (if k = 0 then ([] : List UInt8) else [32, 42, 32]).length + (insT U).length ≤ 140737488355000 := by
        have h1 := HLN.out; have h2 := HL.out; rw [hl1, List.length_append]; omega
      have HBT := Lib.hid (between_s B b k ⟨#[32, 42, 32]⟩ l1 W2 HR2.out.bld HR2.out.le (by show l1.length + 3 ≤ _; omega))
      have HLS := Lib.hid hls; have HB2 := Lib.hid (hb2.mono HR.out.le)
      rw [hW2] at HBT
      clear hls hb2
      obtain ⟨pb, hpb⟩ : ∃ pb, pb = pairB U := ⟨_, rfl⟩
      have g5 : (U.kind == 3) = decide (U.kind = 3) := by by_cases h : U.kind = 3 <;> simp [h]
      have g6 : (U.kind == 4) = decide (U.kind = 4) := by by_cases h : U.kind = 4 <;> simp [h]
      obtain ⟨p3, hp3⟩ : ∃ p, p = decide (U.kind = 3) := ⟨_, rfl⟩
      obtain ⟨p4, hp4⟩ : ∃ p, p = decide (U.kind = 4) := ⟨_, rfl⟩
      rw [← hp3] at g5; rw [← hp4] at g6
      have HPB : Hid (pairB U = (p3 || p4)) := Lib.hid (by rw [hp3, hp4]; rfl)
      clear hp3 hp4 hpb
      go_wp2_with fail
      refine HBT.out.mono ?_
      rintro e w3 ⟨rfl, H3⟩
      rw [← hW2] at H3
      have HBX3 := Lib.hid (H3.at HBX.out (by decide) hbn)
      obtain ⟨y0, y1, y2, y3⟩ := box4 HBX3.out
      have HR3 := Lib.hid (HR2.out.t H3)
      have HBW := Lib.hid (HB2.out.trans H3.below)
      clear H3
      have HSI : Hid (∀ yes, yes = pairB U → Calls Tryd.prog 85 #[.pointer (some ⟨b, 0, none⟩), .agg #[.int .i64 U.kind, .int .i64 U.num, .string U.name, .slice A' U.args.length c'], .bool yes] w3 fun e W' => e = .returned (.tuple #[]) ∧ Hid (SB B b W (l ++ joinW [32, 42, 32] ((T.args.map insT).take (k + 1))) W')) := Lib.hid fun yes hy => by
        have h1 := HLS.out
        refine (sayIn_s HSC.out B b _ yes _ w3 (HT0.out.keep fun g hg2 => ⟨hg2, HBW.out.block g hg2⟩) HR3.out.bld HR3.out.le (HR3.out.tb HTB.out hg) hg ?_).mono ?_
        · rw [List.length_append]
          unfold insT at h1
          rw [← hy] at h1
          have e3 : (if k = 0 then ([] : List UInt8) else (⟨#[32, 42, 32]⟩ : ByteArray).data.toList) = (if k = 0 then [] else [32, 42, 32]) := rfl
          rw [e3]; omega
        · rintro e W' ⟨rfl, h⟩
          refine ⟨rfl, Lib.hid ?_⟩
          have h5 := HR3.out.t h
          rw [HTK.out, ← List.append_assoc, ← hl1, ← List.append_assoc]
          unfold insT
          rw [hy] at h5
          exact h5
      have HC0 := HPB.out
      clear hlm
      have hcs : (p3 = true) ∨ (p3 = false ∧ p4 = true) ∨ (p3 = false ∧ p4 = false) := by cases p3 <;> cases p4 <;> simp
      rcases hcs with rfl | ⟨rfl, rfl⟩ | ⟨rfl, rfl⟩
      · have HC := Lib.hid (HSI.out true (by rw [HC0]; rfl))
        clear HC0
        go_wp2_with fail
        refine HC.out.mono ?_
        rintro e w4 ⟨rfl, H4⟩
        go_wp2
        go_roundw
        case rel => exact ⟨k + 1, by omega, by go_num, H4⟩
        case measure => simp [RowKit.intOf]; omega
      · have HC := Lib.hid (HSI.out true (by rw [HC0]; rfl))
        clear HC0
        go_wp2_with fail
        refine HC.out.mono ?_
        rintro e w4 ⟨rfl, H4⟩
        go_wp2
        go_roundw
        case rel => exact ⟨k + 1, by omega, by go_num, H4⟩
        case measure => simp [RowKit.intOf]; omega
      · have HC := Lib.hid (HSI.out false (by rw [HC0]; rfl))
        clear HC0
        go_wp2_with fail
        refine HC.out.mono ?_
        rintro e w4 ⟨rfl, H4⟩
        go_wp2
        go_roundw
        case rel => exact ⟨k + 1, by omega, by go_num, H4⟩
        case measure => simp [RowKit.intOf]; omega
    · have hkl : k = T.args.length := by omega
      have HE : Hid (SB B b W (l ++ joinW [32, 42, 32] (T.args.map insT)) wr) := Lib.hid (by
        have h := HR.out
        rw [hkl, ← List.length_map (f := insT), List.take_length] at h
        exact h)
      go_wp2
      go_end0
      exact ⟨rfl, HE.out⟩
end Go.Proofs.YtbhicpjhijondaaDoor
