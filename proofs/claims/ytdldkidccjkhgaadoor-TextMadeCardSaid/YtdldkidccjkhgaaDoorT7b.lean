import Derived.Test.YtdldkidccjkhgaaDoorT7a
namespace Go.Proofs.YtdldkidccjkhgaaDoor
open Go.RowKit Go.Par
set_option linter.unusedVariables false

theorem LineAt.eq {rs : List Int} {k : Nat} {a : List Int} (h : LineAt rs k a) : a = (rs.drop k).takeWhile (fun r => decide (r ≠ 10)) := by
  obtain ⟨h1, b, e, hb⟩ := h
  rw [e]
  rw [List.takeWhile_append_of_pos (fun x hx => by simp; exact fun e => h1 (e ▸ hx))]
  rcases hb with rfl | ⟨c, rfl⟩ <;> simp

/-- the line that a byte's place is in. -/
theorem line_of_off (rs : List Int) (n : Nat) (hn : n ≤ (txt rs).length) :
    ∃ k a, k ≤ rs.length ∧ LineAt rs k a ∧ (posT rs k).2 = 0 ∧ (plc rs k).1 ≤ n ∧ n ≤ (plc rs k).1 + (txt a).length ∧ (k = 0 ∨ ∃ j, k = j + 1 ∧ rs.getD j 0 = 10) := by
  have key : ∀ m k, k ≤ rs.length → (posT rs k).2 = 0 → (plc rs k).1 ≤ n → (k = 0 ∨ ∃ j, k = j + 1 ∧ rs.getD j 0 = 10) → rs.length - k ≤ m →
      ∃ k a, k ≤ rs.length ∧ LineAt rs k a ∧ (posT rs k).2 = 0 ∧ (plc rs k).1 ≤ n ∧ n ≤ (plc rs k).1 + (txt a).length ∧ (k = 0 ∨ ∃ j, k = j + 1 ∧ rs.getD j 0 = 10) := by
    intro m
    induction m with
    | zero =>
      intro k hk h0 hp hj hm
      have hkl : k = rs.length := by omega
      refine ⟨k, [], hk, ⟨by simp, [], by rw [hkl]; simp, .inl rfl⟩, h0, hp, ?_, hj⟩
      have : (plc rs k).1 = (txt rs).length := by unfold plc; rw [hkl, take_all]
      rw [this]; omega
    | succ m ih =>
      intro k hk h0 hp hj hm
      obtain ⟨a, b, e, h10, hb⟩ := line_cut (rs.drop k)
      have hL : LineAt rs k a := ⟨h10, b, e, hb⟩
      by_cases hle : n ≤ (plc rs k).1 + (txt a).length
      · exact ⟨k, a, hk, hL, h0, hp, hle, hj⟩
      · have hoff := hL.off hk a.length (Nat.le_refl _)
        have hpa : (plc a a.length).1 = (txt a).length := by unfold plc; rw [take_all]
        rcases hL.next hk with he | ⟨he, hnl⟩
        · exfalso
          rw [he, hpa] at hoff
          have : (plc rs rs.length).1 = (txt rs).length := by unfold plc; rw [take_all]
          omega
        · have hst := posT_step rs _ he
          have hps := plc_step rs _ he
          rw [hnl] at hst hps
          rw [enc_nl] at hps
          refine ih (k + a.length + 1) (by omega) (by rw [hst]; simp [stepT]) ?_ (.inr ⟨_, rfl, hnl⟩) (by omega)
          rw [hps]; simp; omega
  exact key rs.length 0 (by omega) rfl (by simp [plc, txt]) (.inl rfl) (by omega)

theorem getD_txt (rs : List Int) (k : Nat) (j : Nat) (hj : j < (txt (rs.drop k)).length) : (txt rs).getD ((plc rs k).1 + j) 0 = (txt (rs.drop k)).getD j 0 := by
  rw [← drop_txt, List.getD_eq_getElem?_getD, List.getD_eq_getElem?_getD, List.getElem?_drop]

/-- where the last line feed ahead is. -/
theorem last_nl {rs : List Int} (ha : AllR rs) {n k : Nat} {a : List Int} (hn : n ≤ (txt rs).length) (hk : k ≤ rs.length) (hL : LineAt rs k a) (h1 : (plc rs k).1 ≤ n) (h2 : n ≤ (plc rs k).1 + (txt a).length)
    (hj : k = 0 ∨ ∃ j, k = j + 1 ∧ rs.getD j 0 = 10) (S : ByteArray) (hS : S.data.toList = (txt rs).take n) : Lib.lastIndexByte S 10 = ((plc rs k).1 : Int) - 1 := by
  have hsz : S.size = n := by rw [Lib.size_eq, hS, List.length_take]; omega
  have hget : ∀ i, i < n → S.data[i]! = (txt rs).getD i 0 := fun i hi => by
    have h3 : S.data[i]! = S.data.toList.getD i 0 := by
      rw [List.getD_eq_getElem?_getD, Array.getElem?_toList]
      cases h4 : S.data[i]? with
      | none => simp [getElem!_def, h4]; rfl
      | some x => simp [getElem!_def, h4]
    rw [h3, hS, List.getD_eq_getElem?_getD, List.getD_eq_getElem?_getD, List.getElem?_take_of_lt hi]
  have hno : ∀ i, (plc rs k).1 ≤ i → i < n → (txt rs).getD i 0 ≠ 10 := fun i hi hin => by
    obtain ⟨j, rfl⟩ := Nat.exists_eq_add_of_le hi
    obtain ⟨h10, b, e, hb⟩ := hL
    have haa : AllR a := LineAt.all ha ⟨h10, b, e, hb⟩
    have hja : j < (txt a).length := by omega
    rw [getD_txt rs k j (by rw [e, txt_append, List.length_append]; omega), e, txt_append, List.getD_eq_getElem?_getD, List.getElem?_append_left hja, ← List.getD_eq_getElem?_getD]
    intro hc
    refine txt_no_nl haa h10 ?_
    rw [← hc, List.getD_eq_getElem?_getD, List.getElem?_eq_getElem hja]
    exact List.getElem_mem hja
  have h10v : ∀ x : UInt8, ((x.toNat : Int) = 10) ↔ x = 10 := fun x => by
    constructor
    · intro h; apply UInt8.toNat.inj; have : (10 : UInt8).toNat = 10 := rfl; omega
    · rintro rfl; rfl
  unfold Lib.lastIndexByte
  rw [hsz]
  rcases Lib.lastIdx_spec S 10 n with ⟨hr, hall⟩ | ⟨i, hi, hr, hat, hnone⟩
  · rw [hr]
    rcases hj with rfl | ⟨j, rfl, hj10⟩
    · simp [plc, txt]
    · exfalso
      have hps := plc_step rs j (by omega)
      rw [hj10, enc_nl] at hps
      have hp1 : (plc rs (j + 1)).1 = (plc rs j).1 + 1 := by rw [hps]; rfl
      refine hall (plc rs j).1 (by omega) ((h10v _).2 ?_)
      rw [hget _ (by omega)]
      have hd : rs.drop j = 10 :: rs.drop (j + 1) := by rw [drop_cons (by omega), hj10]
      have := getD_txt rs j 0 (by rw [hd, txt_cons, enc_nl]; simp)
      rw [Nat.add_zero] at this
      rw [this, hd, txt_cons, enc_nl]; rfl
  · rw [hr]
    rw [hget i hi, h10v] at hat
    have hilt : i < (plc rs k).1 := by
      rcases Nat.lt_or_ge i (plc rs k).1 with h | h
      · exact h
      · exact absurd hat (hno i h hi)
    rcases hj with rfl | ⟨j, rfl, hj10⟩
    · simp [plc, txt] at hilt
    · have hps := plc_step rs j (by omega)
      rw [hj10, enc_nl] at hps
      have hp1 : (plc rs (j + 1)).1 = (plc rs j).1 + 1 := by rw [hps]; rfl
      rcases Nat.lt_or_ge i (plc rs j).1 with h | h
      · exfalso
        refine hnone (plc rs j).1 h (by omega) ((h10v _).2 ?_)
        rw [hget _ (by omega)]
        have hd : rs.drop j = 10 :: rs.drop (j + 1) := by rw [drop_cons (by omega), hj10]
        have := getD_txt rs j 0 (by rw [hd, txt_cons, enc_nl]; simp)
        rw [Nat.add_zero] at this
        rw [this, hd, txt_cons, enc_nl]; rfl
      · omega

theorem plc_mono (rs : List Int) (ha : AllR rs) {i j : Nat} (h : i ≤ j) (hj : j ≤ rs.length) : (plc rs i).1 ≤ (plc rs j).1 := by
  rcases Nat.eq_or_lt_of_le h with rfl | h
  · exact Nat.le_refl _
  · exact Nat.le_of_lt (plc_lt rs ha h hj).1

theorem isO_line_none {rs : List Int} (ha : AllR rs) {k n : Nat} (hk : k ≤ rs.length) {a : List Int} (h : LineAt rs k a) (h1 : (plc rs k).1 ≤ n) (h2 : n ≤ (plc rs k).1 + (txt a).length)
    (hf : findP (fun p => decide ((p.1 : Int) = (n : Int) - (plc rs k).1)) a = none) : IsO rs n none := by
  intro m hm hp
  have hle := h.len hk
  have hpa : (plc a a.length).1 = (txt a).length := by unfold plc; rw [take_all]
  have hoff := h.off hk a.length (Nat.le_refl _)
  have hkm : k ≤ m := by
    rcases Nat.lt_or_ge m k with hx | hx
    · have := (plc_lt rs ha hx hk).1; omega
    · exact hx
  have hmk : m ≤ k + a.length := by
    rcases Nat.lt_or_ge (k + a.length) m with hx | hx
    · have := (plc_lt rs ha hx hm).1; omega
    · exact hx
  obtain ⟨j, rfl⟩ := Nat.exists_eq_add_of_le hkm
  have := findP_none hf j (by omega)
  have h3 := of_decide_eq_false this
  have h4 := h.off hk j (by omega)
  omega
theorem isO_line_some {rs : List Int} {k n : Nat} (hk : k ≤ rs.length) {a : List Int} (h : LineAt rs k a) (h0 : (posT rs k).2 = 0) (h1 : (plc rs k).1 ≤ n) {p : Nat × Nat}
    (hf : findP (fun p => decide ((p.1 : Int) = (n : Int) - (plc rs k).1)) a = some p) : ∃ m, IsO rs n (some m) ∧ posT rs m = ((posT rs k).1, p.2) := by
  have hle := h.len hk
  obtain ⟨j, hj, hpj, hq⟩ := findP_some hf
  have hq' : (p.1 : Int) = (n : Int) - (plc rs k).1 := by simpa using hq
  have h4 := h.off hk j hj
  refine ⟨k + j, ⟨by omega, ?_⟩, ?_⟩
  · rw [← hpj] at h4; omega
  · rw [h.pos hk j hj, h0, ← hpj]; simp

def PlacePost (w : World) (rs : List Int) (o : Option Nat) (e : Ending) (w' : World) : Prop :=
  (match o with
    | some k => e = .returned (.tuple #[.int .i64 (posT rs k).1, .int .i64 (posT rs k).2, .int .i64 0])
    | none => e = .returned (.tuple #[.int .i64 0, .int .i64 0, .int .i64 70])) ∧ Below w.heap.size w w'
theorem PlacePost.bad {w w' : World} {rs : List Int} {o : Option Nat} (h : o = none) (hb : Below w.heap.size w w') : PlacePost w rs o (.returned (.tuple #[.int .i64 0, .int .i64 0, .int .i64 70])) w' := by
  subst h; exact ⟨rfl, hb⟩
theorem PlacePost.good {w w' : World} {rs : List Int} {o : Option Nat} {k l c : Nat} (h : o = some k) (hp : posT rs k = (l, c)) (hb : Below w.heap.size w w') : PlacePost w rs o (.returned (.tuple #[.int .i64 l, .int .i64 c, .int .i64 0])) w' := by
  subst h; exact ⟨by show Ending.returned _ = Ending.returned _; rw [hp], hb⟩

theorem lines_any (s : ByteArray) (hs : s.size ≤ 9223372036854775806) (w : World) :
    Calls Tryd.prog 44 #[.string s] w fun e w' => e = .returned (.int .i64 ((Lib.countByte s.data.toList 10 : Nat) + 1 : Int)) ∧ w' = w := by
  have h := Tryd.strings_Count_one s 10 w
  have hle : Lib.countByte s.data.toList 10 ≤ s.size := by
    rw [Lib.size_eq]; exact List.count_le_length
  go_enter Tryd.func44, Tryd.ntmps44
  go_wp2_with (go_at_call 64; refine h.mono ?_; rintro e w1 ⟨rfl, rfl⟩)
  go_ret
  exact ⟨rfl, rfl⟩

theorem toffset_ok (s : ByteArray) (rs : List Int) (hs : s.data.toList = txt rs) (ha : AllR rs) (hl : s.size ≤ 100000) (line char : Int) (hlm : line ≤ 9223372036854775807) (o : Option Nat) (HO : Hid (IsT rs line char o)) (w : World) (hT : Tabs w) :
    Calls Tryd.prog 45 #[.string s, .int .i64 line, .int .i64 char] w (NumPost w (o.map fun k => (plc rs k).1)) := by
  have hv : Lib.validD s.data.toList = true := by rw [hs]; exact validD_of ha
  obtain ⟨o', ho'⟩ : ∃ o', o' = o.map fun k => (plc rs k).1 := ⟨_, rfl⟩
  rw [← ho']
  have HO' := Lib.hid ho'; clear ho'
  have HS := Lib.hid hs; clear hs
  have HV := Lib.hid hv; clear hv
  go_enter Tryd.func45, Tryd.ntmps45
  go_wp2_with fail
  refine (valid_any s w (by omega) hT).mono ?_
  rintro e w1 ⟨rfl, hb1⟩
  rw [HV.out]
  go_wp2_with fail
  refine (find_any s rs HS.out ha hl line char hlm o HO w1 (hT.below hb1)).mono ?_
  intro e w2 h2
  rw [← HO'.out] at h2
  clear HO'
  cases o' with
  | none =>
    obtain ⟨rfl, hb2⟩ := h2
    go_wp2
    go_ret2
    exact ⟨rfl, hb1.trans (hb2.mono hb1.size)⟩
  | some n =>
    obtain ⟨rfl, hb2⟩ := h2
    go_wp2
    go_ret2
    exact ⟨rfl, hb1.trans (hb2.mono hb1.size)⟩
theorem toffset_bad (s : ByteArray) (hv : Lib.validD s.data.toList = false) (hl : s.size ≤ 9223372036854775807) (line char : Int) (w : World) (hT : Tabs w) :
    Calls Tryd.prog 45 #[.string s, .int .i64 line, .int .i64 char] w fun e w' => e = .returned (.tuple #[.int .i64 0, .int .i64 40]) ∧ Below w.heap.size w w' := by
  have HV := Lib.hid hv; clear hv
  go_enter Tryd.func45, Tryd.ntmps45
  go_wp2_with fail
  refine (valid_any s w (by omega) hT).mono ?_
  rintro e w1 ⟨rfl, hb1⟩
  rw [HV.out]
  go_wp2
  go_ret2
  exact ⟨rfl, hb1⟩
theorem tplace_bad (s : ByteArray) (hv : Lib.validD s.data.toList = false) (hl : s.size ≤ 9223372036854775807) (off : Int) (w : World) (hT : Tabs w) :
    Calls Tryd.prog 46 #[.string s, .int .i64 off] w fun e w' => e = .returned (.tuple #[.int .i64 0, .int .i64 0, .int .i64 40]) ∧ Below w.heap.size w w' := by
  have HV := Lib.hid hv; clear hv
  go_enter Tryd.func46, Tryd.ntmps46
  go_wp2_with fail
  refine (valid_any s w (by omega) hT).mono ?_
  rintro e w1 ⟨rfl, hb1⟩
  rw [HV.out]
  go_wp2
  go_ret3
  exact ⟨rfl, hb1⟩

set_option maxRecDepth 20000 in
set_option maxHeartbeats 1000000 in
theorem tplace_ok (s : ByteArray) (rs : List Int) (hs : s.data.toList = txt rs) (ha : AllR rs) (hl : s.size ≤ 100000) (off : Int) (o : Option Nat) (HO : Hid (IsO rs off o)) (w : World) (hT : Tabs w) :
    Calls Tryd.prog 46 #[.string s, .int .i64 off] w (PlacePost w rs o) := by
  have hv : Lib.validD s.data.toList = true := by rw [hs]; exact validD_of ha
  have HSZ := Lib.hid (txt_size s rs hs)
  have HS := Lib.hid hs; clear hs
  have HV := Lib.hid hv; clear hv
  by_cases hneg : off < 0
  · go_enter Tryd.func46, Tryd.ntmps46
    go_wp2_with fail
    refine (valid_any s w (by omega) hT).mono ?_
    rintro e w1 ⟨rfl, hb1⟩
    rw [HV.out]
    go_wp2
    go_ret3
    exact PlacePost.bad (HO.out.eq ha (fun k hk hp => by omega)) hb1
  · by_cases hbig : (s.size : Int) < off
    · go_enter Tryd.func46, Tryd.ntmps46
      go_wp2_with fail
      refine (valid_any s w (by omega) hT).mono ?_
      rintro e w1 ⟨rfl, hb1⟩
      rw [HV.out]
      go_wp2
      go_ret3
      refine PlacePost.bad (HO.out.eq ha (fun k hk hp => ?_)) hb1
      have h1 := plc_le rs k
      have h2 := HSZ.out
      omega
    · obtain ⟨n, rfl⟩ : ∃ n : Nat, off = n := ⟨off.toNat, by omega⟩
      have hn : n ≤ s.size := by omega
      obtain ⟨k, a, hk, hL, h0, h1, h2, hj⟩ := line_of_off rs n (by rw [← HSZ.out]; exact hn)
      have hli := last_nl ha (by rw [← HSZ.out]; exact hn) hk hL h1 h2 hj (s.extract 0 n) (by rw [extract_l s _ _ _ HS.out]; simp)
      have hdl : (s.extract (plc rs k).1 s.size).data.toList = txt (rs.drop k) := by
        rw [extract_l s _ _ _ HS.out, drop_txt, List.take_of_length_le]
        have h1 := congrArg List.length (drop_txt rs k)
        have h2 := HSZ.out
        rw [← h1, List.length_drop]; omega
      have had := ha.drop k
      have hcnt : Lib.countByte (s.extract 0 (plc rs k).1).data.toList 10 = (posT rs k).1 := by
        rw [extract_l s _ _ _ HS.out, List.drop_zero, Nat.sub_zero, take_txt, count_txt (ha.take k), posT_count]
      have hxs : (s.extract (plc rs k).1 s.size).size ≤ s.size := by simp
      have hex : (s.extract 0 n).size < 4611686018427387904 := by simp; omega
      have hix := fun wx => Tryd.strings_LastIndexByte (s.extract 0 n) 10 hex wx
      rw [hli] at hix
      obtain ⟨p, hp⟩ : ∃ p, p = (plc rs k).1 := ⟨_, rfl⟩
      have hct := fun wx => Tryd.strings_Count_one (s.extract 0 (plc rs k).1) 10 wx
      rw [hcnt] at hct
      rw [← hp] at h1 hdl hxs hix hct
      have HP := Lib.hid hp; clear hp
      obtain ⟨l, hl'⟩ : ∃ l, l = (posT rs k).1 := ⟨_, rfl⟩
      rw [← hl'] at hct
      have HLN := Lib.hid hl'; clear hl'
      have HDL := Lib.hid hdl; clear hdl
      have HL := Lib.hid hL; clear hL
      have H2 := Lib.hid h2; clear h2
      have H0 := Lib.hid h0; clear h0
      clear hli hcnt hj hneg hbig
      go_enter Tryd.func46, Tryd.ntmps46
      go_wp2_with fail
      refine (valid_any s w (by omega) hT).mono ?_
      rintro e w1 ⟨rfl, hb1⟩
      have hT1 := hT.below hb1
      rw [HV.out]
      go_wp2_with (go_at_call 65; refine (hix _).mono ?_; rintro e w2 ⟨rfl, rfl⟩)
      refine (front_any _ _ HDL.out had (by omega) _).mono ?_
      rintro e w3 ⟨S, a', n1, rfl, hSa, hLa, hSz, rfl⟩
      have hLa := hLa.at
      have hae : a' = a := by rw [hLa.eq, HL.out.eq]
      subst hae
      have haa := hLa.all ha
      have hT2 : Tabs (w2.drewN n1) := hT1
      have hb2 : Below w.heap.size w (w2.drewN n1) := below_drewN hb1 n1
      have HSA := Lib.hid hSa; clear hSa hLa
      generalize w2.drewN n1 = w4 at *
      go_wp2_with fail
      refine (unit_ok S a' HSA.out haa _ w4 hT2 (by omega)).mono ?_
      cases hf : findP (fun q => decide ((q.1 : Int) = (n : Int) - p)) a' with
      | none =>
        rintro e w5 ⟨rfl, hb5⟩
        have HF := Lib.hid hf; clear hf
        go_wp2
        go_ret3
        refine PlacePost.bad (HO.out.eq ha (isO_line_none ha hk HL.out (by rw [← HP.out]; exact h1) H2.out (by rw [← HP.out]; exact HF.out))) (hb2.trans (hb5.mono hb2.size))
      | some q =>
        rintro e w5 ⟨rfl, hb5⟩
        have HF := Lib.hid hf; clear hf
        go_wp2_with (go_at_call 64; refine (hct _).mono ?_; rintro e w6 ⟨rfl, rfl⟩)
        go_ret3
        obtain ⟨m, hm, hpm⟩ := isO_line_some hk HL.out H0.out (by rw [← HP.out]; exact h1) (by rw [← HP.out]; exact HF.out)
        rw [← HLN.out] at hpm
        exact PlacePost.good (HO.out.eq ha hm) hpm (hb2.trans (hb5.mono hb2.size))
end Go.Proofs.YtdldkidccjkhgaaDoor
