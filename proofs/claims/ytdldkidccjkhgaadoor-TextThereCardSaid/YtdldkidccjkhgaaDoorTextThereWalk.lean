import Derived.Test.YtdldkidccjkhgaaDoorT7d
namespace Go.Proofs.YtdldkidccjkhgaaDoor
open Go.RowKit Go.Par
set_option linter.unusedVariables false

set_option maxRecDepth 100000 in
set_option maxHeartbeats 2000000 in
theorem textThere_walk (s : ByteArray) (hs : s.size ≤ 140737488351232) (a : Int) (_ha : -9223372036854775808 ≤ a ∧ a ≤ 9223372036854775807) (b : Int) (_hb : -9223372036854775808 ≤ b ∧ b ≤ 9223372036854775807)
    (c : Int) (_hc : -9223372036854775808 ≤ c ∧ c ≤ 9223372036854775807) (d : Int) (_hd : -9223372036854775808 ≤ d ∧ d ≤ 9223372036854775807) (w : World) (hT : Tabs w) :
    Calls Tryd.prog 14 #[.string s, .int .i64 a, .int .i64 b, .int .i64 c, .int .i64 d] w fun e w' => e = .returned (.bool true) ∧ Below w.heap.size w w' := by
  obtain ⟨_, ha⟩ := _ha
  obtain ⟨_, hc⟩ := _hc
  clear _hb _hd
  by_cases hg : 20000 < (s.size : Int)
  · go_enter Tryd.func14, Tryd.ntmps14
    go_wp2_with (go_at_call 39; refine (alive7_any _ hT).mono ?_; rintro e w1 ⟨rfl, hb1⟩)
    go_ret
    exact ⟨rfl, hb1⟩
  · rcases text_or s with ⟨rs, har, hsr⟩ | hsb
    · have HSR := Lib.hid hsr; clear hsr
      obtain ⟨o1, ho1⟩ := isT_ex rs a b
      obtain ⟨o2, ho2⟩ := isT_ex rs c d
      have HO2 := Lib.hid ho2; clear ho2
      go_enter Tryd.func14, Tryd.ntmps14
      go_wp2_with fail
      refine (alive7_any _ hT).mono ?_
      rintro e w1 ⟨rfl, hb1⟩
      have hT1 := hT.below hb1
      go_wp2_with fail
      refine (toffset_ok s rs HSR.out har (by omega) a b ha o1 (Lib.hid ho1) w1 hT1).mono ?_
      cases o1 with
      | none =>
        rintro e w2 ⟨rfl, hb2⟩
        clear ho1
        go_wp2
        go_ret
        exact ⟨rfl, hb1.trans (hb2.mono hb1.size)⟩
      | some k =>
        rintro e w2 ⟨rfl, hb2⟩
        have hbw2 := hb1.trans (hb2.mono hb1.size)
        have hT2 := hT1.below hb2
        obtain ⟨hk, rfl, rfl⟩ := ho1
        have hple : (plc rs k).1 ≤ s.size := by rw [txt_size s rs HSR.out]; exact plc_le rs k
        have HPL := Lib.hid (tplace_ok s rs HSR.out har (by omega) (plc rs k).1 (some k) (Lib.hid ⟨hk, rfl⟩) w2 hT2)
        go_wp2_with fail
        refine HPL.out.mono ?_
        rintro e w3 ⟨rfl, hb3⟩
        have hbw3 := hbw2.trans (hb3.mono hbw2.size)
        have hT3 := hT2.below hb3
        clear HPL
        have hmono : ∀ m, m ≤ rs.length → (k < m → (plc rs k).1 < (plc rs m).1 ∧ ltT (posT rs k) (posT rs m)) ∧ (m < k → (plc rs m).1 < (plc rs k).1 ∧ ltT (posT rs m) (posT rs k)) :=
          fun m hm => ⟨fun h => ⟨(plc_lt rs har h hm).1, posT_lt rs h hm⟩, fun h => ⟨(plc_lt rs har h hk).1, posT_lt rs h hk⟩⟩
        obtain ⟨pk, hpk⟩ : ∃ x, x = (plc rs k).1 := ⟨_, rfl⟩
        obtain ⟨tk, htk⟩ : ∃ x, x = posT rs k := ⟨_, rfl⟩
        rw [← hpk, ← htk] at hmono
        rw [← hpk] at hple ⊢
        rw [← htk] at ha ⊢
        have HMO := Lib.hid hmono; clear hmono
        have HPK := Lib.hid hpk; clear hpk
        have HTK := Lib.hid htk; clear htk
        obtain ⟨la, ua⟩ := tk
        dsimp only at *
        have hn1 : ¬ (s.size : Int) < (pk : Int) := by omega
        go_wp2_with fail
        refine (toffset_ok s rs HSR.out har (by omega) c d hc o2 HO2 w3 hT3).mono ?_
        cases o2 with
        | none =>
          rintro e w4 ⟨rfl, hb4⟩
          go_wp2
          go_ret
          exact ⟨rfl, hbw3.trans (hb4.mono hbw3.size)⟩
        | some m =>
          rintro e w4 ⟨rfl, hb4⟩
          obtain ⟨hm, rfl, rfl⟩ := HO2.out
          have hmm := HMO.out m hm
          have hbw4 := hbw3.trans (hb4.mono hbw3.size)
          rcases Nat.lt_trichotomy k m with hl | hl | hl
          · obtain ⟨h1, h2⟩ := hmm.1 hl
            clear hmm HMO HO2
            rcases h2 with h2 | ⟨h2, h3⟩
            · have h2' : (la : Int) < ((posT rs m).1 : Int) := by dsimp only at h2; omega
              have h1' : (pk : Int) < ((plc rs m).1 : Int) := by omega
              clear h1 h2
              go_wp2
              go_ret
              exact ⟨rfl, hbw4⟩
            · have h1' : (pk : Int) < ((plc rs m).1 : Int) := by omega
              have h3' : (ua : Int) < ((posT rs m).2 : Int) := by dsimp only at h3; omega
              have h2' : (la : Int) = ((posT rs m).1 : Int) := by dsimp only at h2; omega
              clear h1 h2 h3
              go_wp2
              go_ret
              exact ⟨rfl, hbw4⟩
          · subst hl
            have e1 : (la, ua) = posT rs k := HTK.out
            have e2 := HPK.out
            rw [← e1, show (fun k => (plc rs k).1) k = pk from e2.symm]
            clear hmm HMO HO2 e1 e2
            go_wp2
            go_ret
            exact ⟨rfl, hbw4⟩
          · obtain ⟨h1, h2⟩ := hmm.2 hl
            clear hmm HMO HO2
            have h1' : ¬ (pk : Int) < ((plc rs m).1 : Int) := by omega
            rcases h2 with h2 | ⟨h2, h3⟩
            · have h2' : ¬ (la : Int) < ((posT rs m).1 : Int) := by dsimp only at h2; omega
              have h3' : ¬ (la : Int) = ((posT rs m).1 : Int) := by dsimp only at h2; omega
              have n1 : ¬ pk < (plc rs m).1 := by omega
              have n2 : ¬ la < (posT rs m).1 := by omega
              have N1 := Lib.hid n1; clear n1
              have N2 := Lib.hid n2; clear n2
              clear h1 h2
              go_wp2
              go_ret
              refine ⟨congrArg (fun x => Ending.returned (.bool x)) (?_ : (decide (pk < (plc rs m).1) == decide (la < (posT rs m).1)) = true), hbw4⟩
              rw [decide_eq_false N1.out, decide_eq_false N2.out]; rfl
            · have h3' : ¬ (ua : Int) < ((posT rs m).2 : Int) := by dsimp only at h3; omega
              have h2' : (la : Int) = ((posT rs m).1 : Int) := by dsimp only at h2; omega
              have n1 : ¬ pk < (plc rs m).1 := by omega
              have n2 : ¬ ua < (posT rs m).2 := by omega
              have N1 := Lib.hid n1; clear n1
              have N2 := Lib.hid n2; clear n2
              clear h1 h2 h3
              go_wp2
              go_ret
              refine ⟨congrArg (fun x => Ending.returned (.bool x)) (?_ : (decide (pk < (plc rs m).1) == decide (ua < (posT rs m).2)) = true), hbw4⟩
              rw [decide_eq_false N1.out, decide_eq_false N2.out]; rfl
    · go_enter Tryd.func14, Tryd.ntmps14
      go_wp2_with fail
      refine (alive7_any _ hT).mono ?_
      rintro e w1 ⟨rfl, hb1⟩
      have hT1 := hT.below hb1
      go_wp2_with fail
      refine (toffset_bad s hsb (by omega) a b w1 hT1).mono ?_
      rintro e w2 ⟨rfl, hb2⟩
      go_wp2
      go_ret
      exact ⟨rfl, hb1.trans (hb2.mono hb1.size)⟩
end Go.Proofs.YtdldkidccjkhgaaDoor
