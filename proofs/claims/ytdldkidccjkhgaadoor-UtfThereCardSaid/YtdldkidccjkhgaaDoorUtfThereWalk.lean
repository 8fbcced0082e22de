import Derived.Test.YtdldkidccjkhgaaDoorUtfJoinedWalk
import Derived.Test.YtdldkidccjkhgaaDoorU8p
namespace Go.Proofs.YtdldkidccjkhgaaDoor
open Go.RowKit Go.Par

set_option maxHeartbeats 2000000 in
theorem utfThere_walk (s : ByteArray) (hs : s.size ≤ 140737488351232) (n : Int) (_hn : -9223372036854775808 ≤ n ∧ n ≤ 9223372036854775807) (m : Int) (_hm : -9223372036854775808 ≤ m ∧ m ≤ 9223372036854775807) (w : World) (hT : Tabs w) :
    Calls Tryd.prog 8 #[.string s, .int .i64 n, .int .i64 m] w fun e w' => e = .returned (.bool true) ∧ Below w.heap.size w w' := by
  clear _hn _hm
  by_cases hg : 5000 < (s.size : Int)
  · go_enter Tryd.func8, Tryd.ntmps8
    go_wp2_with (go_at_call 19; refine (alive_any _ hT).mono ?_; rintro e w1 ⟨rfl, hb1⟩)
    go_ret
    exact ⟨rfl, hb1⟩
  · rcases text_or s with ⟨rs, har, hsr⟩ | hsb
    · have hz := txt_size s rs hsr
      have HSR := Lib.hid hsr; clear hsr
      go_enter Tryd.func8, Tryd.ntmps8
      go_wp2_with fail
      refine (alive_any _ hT).mono ?_
      rintro e w1 ⟨rfl, hb1⟩
      have hT1 := hT.below hb1
      go_wp2_with fail
      refine (offset_ok s rs HSR.out har n w1 hT1 (by omega)).mono ?_
      cases hf : findP (fun p => decide ((p.2 : Int) = n)) rs with
      | none =>
        rintro e w2 ⟨rfl, hb2⟩
        have HF := Lib.hid hf; clear hf
        go_wp2
        go_ret
        exact ⟨rfl, hb1.trans (hb2.mono hb1.size)⟩
      | some p =>
        rintro e w2 ⟨rfl, hb2⟩
        have hbw2 := hb1.trans (hb2.mono hb1.size)
        have hT2 := hT1.below hb2
        obtain ⟨k, hk, hpk, hq⟩ := findP_some hf
        have hq' : ((plc rs k).2 : Int) = n := by rw [hpk] at hq; simpa using hq
        have hpl : (plc rs k).1 ≤ s.size := by rw [hz]; exact plc_le rs k
        have hf2 : findP (fun p => decide ((p.1 : Int) = ((plc rs k).1 : Int))) rs = some (plc rs k) :=
          findP_at k hk (by simp) (fun j hj hqj => plc_inj1 rs har hj hk (by have := of_decide_eq_true hqj; omega))
        subst hpk
        subst hq'
        have HF := Lib.hid hf; clear hf
        obtain ⟨a, ha⟩ : ∃ a, a = (plc rs k).1 := ⟨_, rfl⟩
        obtain ⟨u, hu⟩ : ∃ u, u = (plc rs k).2 := ⟨_, rfl⟩
        have hpe : plc rs k = (a, u) := by rw [ha, hu]
        rw [hpe] at hf2 hpl ⊢
        have HPE := Lib.hid hpe
        clear hq hpe ha hu HF
        dsimp only at hf2 hpl ⊢
        have hz5 : (s.size : Int) ≤ 5000 := by omega
        clear hz hg hs
        go_wp2_with fail
        refine (unit_ok s rs HSR.out har a w2 hT2 (by omega)).mono ?_
        rw [hf2]
        clear hf2
        rintro e w3 ⟨rfl, hb3⟩
        have hbw3 := hbw2.trans (hb3.mono hbw2.size)
        have hT3 := hT2.below hb3
        have hab : ¬ (s.size : Int) < a := by omega
        go_wp2_with fail
        refine (offset_ok s rs HSR.out har m w3 hT3 (by omega)).mono ?_
        cases hf3 : findP (fun p => decide ((p.2 : Int) = m)) rs with
        | none =>
          rintro e w4 ⟨rfl, hb4⟩
          have HF := Lib.hid hf3; clear hf3
          go_wp2
          go_ret
          exact ⟨rfl, hbw3.trans (hb4.mono hbw3.size)⟩
        | some p =>
          rintro e w4 ⟨rfl, hb4⟩
          obtain ⟨j, hj, hpj, hqj⟩ := findP_some hf3
          have hq' : (p.2 : Int) = m := by simpa using hqj
          have key : (a < p.1 ↔ u < p.2) ∧ (a = p.1 ↔ u = p.2) := by
            have e1 : a = (plc rs k).1 := by rw [HPE.out]
            have e2 : u = (plc rs k).2 := by rw [HPE.out]
            rw [e1, e2, hpj]
            rcases Nat.lt_trichotomy k j with hl | hl | hl
            · have := plc_lt rs har hl hj; omega
            · subst hl; omega
            · have := plc_lt rs har hl hk; omega
          obtain ⟨b, v⟩ := p
          dsimp only at hq' key ⊢
          subst hq'
          clear hf3 hqj hpj
          have hbw4 := hbw3.trans (hb4.mono hbw3.size)
          rcases Nat.lt_trichotomy a b with hl | hl | hl
          · have hl2 : u < v := key.1.1 hl
            have n1 : ((a : Int) == (b : Int)) = false := by simp; omega
            have n2 : ((u : Int) == (v : Int)) = false := by simp; omega
            clear key
            go_wp2
            go_ret
            exact ⟨rfl, hbw4⟩
          · have hl2 : u = v := key.2.1 hl
            subst hl hl2
            clear key
            go_wp2
            go_ret
            exact ⟨rfl, hbw4⟩
          · have hl2 : v < u := by omega
            have n1 : ((a : Int) == (b : Int)) = false := by simp; omega
            have n2 : ((u : Int) == (v : Int)) = false := by simp; omega
            have n3 : ¬ a < b := by omega
            have n4 : ¬ u < v := by omega
            clear key
            go_wp2
            go_ret
            exact ⟨rfl, hbw4⟩
    · go_enter Tryd.func8, Tryd.ntmps8
      go_wp2_with fail
      refine (alive_any _ hT).mono ?_
      rintro e w1 ⟨rfl, hb1⟩
      have hT1 := hT.below hb1
      go_wp2_with fail
      refine (offset_bad s hsb n w1 hT1 (by omega)).mono ?_
      rintro e w2 ⟨rfl, hb2⟩
      go_wp2
      go_ret
      exact ⟨rfl, hb1.trans (hb2.mono hb1.size)⟩
end Go.Proofs.YtdldkidccjkhgaaDoor
