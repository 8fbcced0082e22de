import Derived.Test.YtdldkidccjkhgaaDoorT7b
import Derived.Test.YtdldkidccjkhgaaDoorUtfRoundWalk
namespace Go.Proofs.YtdldkidccjkhgaaDoor
open Go.RowKit Go.Par
set_option linter.unusedVariables false

/-- an edit. -/
structure Ed where
  l : Int
  c : Int
  el : Int
  ec : Int
  t : ByteArray
deriving Inhabited
def Ed.cells (e : Ed) : List Value := [.int .i64 e.l, .int .i64 e.c, .int .i64 e.el, .int .i64 e.ec, .string e.t]
def eds (es : List Ed) : List Value := es.flatMap Ed.cells
theorem eds_length (es : List Ed) : (eds es).length = 5 * es.length := by
  induction es with
  | nil => rfl
  | cons e es ih => simp only [eds, List.flatMap_cons, List.length_append, List.length_cons] at *; rw [ih]; simp [Ed.cells]; omega
theorem eds_append (a b : List Ed) : eds (a ++ b) = eds a ++ eds b := by simp [eds]
theorem eds_getElem (es : List Ed) : ∀ (i j : Nat) (e : Ed), es[i]? = some e → j < 5 → (eds es)[i * 5 + j]? = e.cells[j]? := by
  induction es with
  | nil => intro i j e h; simp at h
  | cons x es ih =>
    intro i j e h hj
    cases i with
    | zero =>
      simp at h
      subst h
      simp only [eds, List.flatMap_cons, Nat.zero_mul, Nat.zero_add]
      rw [List.getElem?_append_left (by simp [Ed.cells]; omega)]
    | succ i =>
      simp at h
      have := ih i j e h hj
      simp only [eds, List.flatMap_cons]
      rw [List.getElem?_append_right (by simp [Ed.cells]; omega)]
      rw [show (i + 1) * 5 + j - x.cells.length = i * 5 + j by simp [Ed.cells]; omega]
      exact this

/-- v is a slice of edits, in a block below B. -/
def SegE (w : World) (B : Nat) (v : Value) (es : List Ed) : Prop :=
  ∃ A c, v = .slice A es.length c ∧ es.length ≤ c ∧ c ≤ 9223372036854775807 ∧ (0 < es.length → ∃ b off, A = some ⟨b, off, none⟩ ∧ b < B ∧ ∀ i, i < 5 * es.length → w.cell? ⟨b, off + i, none⟩ = (eds es)[i]?)
theorem SegE.keep {w w' : World} {B : Nat} {v : Value} {es : List Ed} (h : SegE w B v es) (hk : ∀ b o, b < B → w'.cell? ⟨b, o, none⟩ = w.cell? ⟨b, o, none⟩) : SegE w' B v es := by
  obtain ⟨A, c, h1, h2, h3, h4⟩ := h
  exact ⟨A, c, h1, h2, h3, fun hn => by
    obtain ⟨b, off, e, hb, hc⟩ := h4 hn
    exact ⟨b, off, e, hb, fun i hi => (hk b _ hb).trans (hc i hi)⟩⟩
theorem SegE.below {w w' : World} {B : Nat} {v : Value} {es : List Ed} (h : SegE w B v es) (hb : Below B w w') : SegE w' B v es := h.keep fun b o hp => hb.cell (p := ⟨b, o, none⟩) hp
theorem SegE.more {w : World} {B B' : Nat} {v : Value} {es : List Ed} (h : SegE w B v es) (hB : B ≤ B') : SegE w B' v es := by
  obtain ⟨A, c, h1, h2, h3, h4⟩ := h
  exact ⟨A, c, h1, h2, h3, fun hn => by
    obtain ⟨b, off, e, hb, hc⟩ := h4 hn
    exact ⟨b, off, e, by omega, hc⟩⟩

/- what Apply answers. -/
open Classical in
noncomputable def runesOf (l : List UInt8) : Option (List Int) := if h : ∃ rs, AllR rs ∧ l = txt rs then some h.choose else none
theorem runesOf_txt {rs : List Int} (h : AllR rs) : runesOf (txt rs) = some rs := by
  unfold runesOf
  have hx : ∃ qs, AllR qs ∧ txt rs = txt qs := ⟨rs, h, rfl⟩
  rw [dif_pos hx, ← txt_inj h hx.choose_spec.1 hx.choose_spec.2]
theorem runesOf_bad {l : List UInt8} (h : Lib.validD l = false) : runesOf l = none := by
  unfold runesOf
  rw [dif_neg]
  intro hx
  rw [(validD_iff l).2 hx] at h
  cases h
def posK (rs : List Int) (l c : Int) : Option Nat := (List.range (rs.length + 1)).find? fun k => decide (((posT rs k).1 : Int) = l ∧ ((posT rs k).2 : Int) = c)
theorem posK_is (rs : List Int) (l c : Int) : IsT rs l c (posK rs l c) := by
  cases h : posK rs l c with
  | none =>
    intro k hk hp
    have := List.find?_eq_none.1 h k (by simp; omega)
    simp at this
    exact this hp.1 hp.2
  | some k =>
    have h1 := List.find?_some h
    have h2 := List.mem_of_find?_eq_some h
    simp at h1 h2
    exact ⟨by omega, h1⟩
noncomputable def stepE (rs : List Int) (e : Ed) : Except Int (List Int) :=
  match runesOf e.t.data.toList with
  | none => .error 40
  | some ts =>
    match posK rs e.l e.c with
    | none => .error 70
    | some k =>
      match posK rs e.el e.ec with
      | none => .error 70
      | some m =>
        if (plc rs m).1 < (plc rs k).1 then .error 71
        else if 32768 < (plc rs k).1 + (txt ts).length + (txt rs).length - (plc rs m).1 then .error 52
        else .ok (rs.take k ++ ts ++ rs.drop m)
noncomputable def applyE (rs : List Int) : List Ed → Except Int (List Int)
  | [] => .ok rs
  | e :: es => match stepE rs e with
    | .error n => .error n
    | .ok qs => applyE qs es

def ApplyPost (w : World) (r : Except Int (List Int)) (e : Ending) (w' : World) : Prop :=
  (match r with
    | .ok rs => e = .returned (.tuple #[.string ⟨(txt rs).toArray⟩, .int .i64 0])
    | .error n => e = .returned (.tuple #[.string ⟨#[]⟩, .int .i64 n])) ∧ Below w.heap.size w w'

theorem ApplyPost.bad {w w' : World} {r : Except Int (List Int)} {n : Int} (h : r = .error n) (hb : Below w.heap.size w w') : ApplyPost w r (.returned (.tuple #[.string ⟨#[]⟩, .int .i64 n])) w' := by
  subst h; exact ⟨rfl, hb⟩

theorem ApplyPost.good {w w' : World} {r : Except Int (List Int)} {rs : List Int} {S : ByteArray} (h : r = .ok rs) (hs : S.data.toList = txt rs) (hb : Below w.heap.size w w') : ApplyPost w r (.returned (.tuple #[.string S, .int .i64 0])) w' := by
  subst h; exact ⟨by show Ending.returned _ = Ending.returned _; rw [str_eq S _ hs], hb⟩

/-- an edit's five cells. -/
def Five (w : World) (g : Nat) (e : Ed) : Prop :=
  w.cell? ⟨g, 0, none⟩ = some (.int .i64 e.l) ∧ w.cell? ⟨g, 1, none⟩ = some (.int .i64 e.c) ∧ w.cell? ⟨g, 2, none⟩ = some (.int .i64 e.el) ∧ w.cell? ⟨g, 3, none⟩ = some (.int .i64 e.ec) ∧ w.cell? ⟨g, 4, none⟩ = some (.string e.t)
theorem Five.below {w w' : World} {g : Nat} {e : Ed} (h : Five w g e) (hg : g < w.heap.size) (hb : Below w.heap.size w w') : Five w' g e := by
  obtain ⟨h0, h1, h2, h3, h4⟩ := h
  exact ⟨(hb.cell (p := ⟨g, 0, none⟩) hg).trans h0, (hb.cell (p := ⟨g, 1, none⟩) hg).trans h1, (hb.cell (p := ⟨g, 2, none⟩) hg).trans h2, (hb.cell (p := ⟨g, 3, none⟩) hg).trans h3, (hb.cell (p := ⟨g, 4, none⟩) hg).trans h4⟩
theorem five_new (w : World) (e : Ed) : Five (w.alloc (.cells #[.int .i64 e.l, .int .i64 e.c, .int .i64 e.el, .int .i64 e.ec, .string e.t] 52)) w.heap.size e := by
  refine ⟨?_, ?_, ?_, ?_, ?_⟩ <;> (rw [World.cell?_alloc_new]; simp)

theorem apply_bad (s : ByteArray) (hv : Lib.validD s.data.toList = false) (hl : s.size ≤ 9223372036854775807) (v : Value) (w : World) (hT : Tabs w) :
    Calls Tryd.prog 42 #[.string s, v] w (ApplyPost w (.error 40)) := by
  have HV := Lib.hid hv; clear hv
  obtain ⟨r, hr⟩ : ∃ r : Except Int (List Int), r = .error 40 := ⟨_, rfl⟩
  rw [← hr]
  have HR := Lib.hid hr; clear hr
  go_enter Tryd.func42, Tryd.ntmps42
  go_wp2_with fail
  refine (valid_any s w (by omega) hT).mono ?_
  rintro e w1 ⟨rfl, hb1⟩
  rw [HV.out]
  go_wp2
  go_ret2
  rw [HR.out]
  exact ⟨rfl, hb1⟩

set_option maxRecDepth 100000 in
set_option maxHeartbeats 2000000 in
theorem apply_ok (s : ByteArray) (rs : List Int) (hs : s.data.toList = txt rs) (ha : AllR rs) (hl : s.size ≤ 100000) (v : Value) (es : List Ed) (he : ∀ e ∈ es, e.t.size ≤ 100000 ∧ e.l ≤ 9223372036854775807 ∧ e.el ≤ 9223372036854775807)
    (B : Nat) (w : World) (hsg : SegE w B v es) (hB : B ≤ w.heap.size) (hT : Tabs w) :
    Calls Tryd.prog 42 #[.string s, v] w (ApplyPost w (applyE rs es)) := by
  have hv : Lib.validD s.data.toList = true := by rw [hs]; exact validD_of ha
  obtain ⟨r, hr⟩ : ∃ r, r = applyE rs es := ⟨_, rfl⟩
  rw [← hr]
  have HR := Lib.hid hr; clear hr
  have HV := Lib.hid hv; clear hv
  have HS := Lib.hid hs; clear hs
  obtain ⟨A, c, rfl, hc, hcm, hat⟩ := hsg
  go_enter Tryd.func42, Tryd.ntmps42
  go_wp2_with fail
  refine (valid_any s w (by omega) hT).mono ?_
  rintro e w1 ⟨rfl, hb1⟩
  have hz1 := hb1.size
  rw [HV.out]
  go_wp2
  go_loopw [0, 16, 7, 8, 9, 10] (fun sv i _ _ _ _ wr => ∃ (k : Nat) (S : ByteArray) (qs : List Int), k ≤ es.length ∧ i = .int .i64 k ∧ sv = .string S ∧ S.size ≤ 100000 ∧ AllR qs ∧ Hid (S.data.toList = txt qs) ∧ Hid (r = applyE qs (es.drop k)) ∧ Below w.heap.size w wr) (fun _ i _ _ _ _ _ => es.length - (intOf i).toNat)
  case atStart => exact ⟨0, s, rs, by omega, rfl, rfl, hl, ha, HS, Lib.hid (by rw [HR.out]; rfl), hb1⟩
  case round =>
    obtain ⟨k, S, qs, hk, rfl, rfl, hSl, haq, HSq, HRk, hbw⟩ := hrel
    by_cases hlt : k < es.length
    · obtain ⟨b, off, rfl, hb, hcell⟩ := hat (by omega)
      obtain ⟨e, hek⟩ : ∃ e, es[k]? = some e := ⟨_, List.getElem?_eq_getElem hlt⟩
      have hmem := he e (List.mem_of_getElem? hek)
      have hce : ∀ j, j < 5 → wr.cell? ⟨b, off + (k * 5 + j), none⟩ = e.cells[j]? := fun j hj => by
        rw [hbw.cell (p := ⟨b, off + (k * 5 + j), none⟩) (Nat.lt_of_lt_of_le hb hB), hcell _ (by omega)]
        exact eds_getElem es k j e hek hj
      have c0 : wr.cell? ⟨b, off + k * 5, none⟩ = some (.int .i64 e.l) := by simpa [Ed.cells] using hce 0 (by omega)
      have c1 : wr.cell? ⟨b, off + k * 5 + 1, none⟩ = some (.int .i64 e.c) := by simpa [Ed.cells, Nat.add_assoc] using hce 1 (by omega)
      have c2 : wr.cell? ⟨b, off + k * 5 + 2, none⟩ = some (.int .i64 e.el) := by simpa [Ed.cells, Nat.add_assoc] using hce 2 (by omega)
      have c3 : wr.cell? ⟨b, off + k * 5 + 3, none⟩ = some (.int .i64 e.ec) := by simpa [Ed.cells, Nat.add_assoc] using hce 3 (by omega)
      have c4 : wr.cell? ⟨b, off + k * 5 + 4, none⟩ = some (.string e.t) := by simpa [Ed.cells, Nat.add_assoc] using hce 4 (by omega)
      clear hce hat hcell
      have hdk : es.drop k = e :: es.drop (k + 1) := by
        rw [List.drop_eq_getElem_cons hlt]
        rw [List.getElem?_eq_getElem hlt] at hek
        cases hek; rfl
      have hrk := HRk.out
      rw [hdk] at hrk
      have HRK := Lib.hid hrk; clear hrk hdk HRk hek
      obtain ⟨hm1, hm2, hm3⟩ := hmem
      have hfive := five_new wr e
      have hbW : Below w.heap.size w (wr.alloc (.cells #[.int .i64 e.l, .int .i64 e.c, .int .i64 e.el, .int .i64 e.ec, .string e.t] 52)) := hbw.alloc hbw.size _
      have hgW : wr.heap.size < (wr.alloc (.cells #[.int .i64 e.l, .int .i64 e.c, .int .i64 e.el, .int .i64 e.ec, .string e.t] 52)).heap.size := by simp
      go_wp2_with fail
      clear c0 c1 c2 c3 c4
      have hgw : w.heap.size ≤ wr.heap.size := hbw.size
      generalize wr.alloc (.cells #[.int .i64 e.l, .int .i64 e.c, .int .i64 e.el, .int .i64 e.ec, .string e.t] 52) = W0 at *
      generalize wr.heap.size = g at *
      clear hbw
      have hTW := hT.below hbW
      refine (valid_any e.t W0 (by omega) hTW).mono ?_
      rintro x w2 ⟨rfl, hb2⟩
      have hf2 := hfive.below hgW hb2
      have hg2 := Nat.lt_of_lt_of_le hgW hb2.size
      have hbw2 := hbW.trans (hb2.mono hbW.size)
      have hT2 := hTW.below hb2
      clear hfive hgW hbW hTW hb2
      rcases text_or e.t with ⟨ts, hat, hts⟩ | hbad
      · have hvt : Lib.validD e.t.data.toList = true := by rw [hts]; exact validD_of hat
        rw [hvt]
        have hst : stepE qs e = match posK qs e.l e.c with
          | none => .error 70
          | some k =>
            match posK qs e.el e.ec with
            | none => .error 70
            | some m =>
              if (plc qs m).1 < (plc qs k).1 then .error 71
              else if 32768 < (plc qs k).1 + (txt ts).length + (txt qs).length - (plc qs m).1 then .error 52
              else .ok (qs.take k ++ ts ++ qs.drop m) := by
          unfold stepE
          rw [hts, runesOf_txt hat]
        have HST := Lib.hid hst; clear hst
        have HTS := Lib.hid hts; clear hts hvt
        obtain ⟨d0, d1, d2, d3, d4⟩ := hf2
        go_wp2_with fail
        refine (find_any S qs HSq.out haq hSl e.l e.c hm2 _ (Lib.hid (posK_is qs e.l e.c)) w2 hT2).mono ?_
        cases hk1 : posK qs e.l e.c with
        | none =>
          rintro x w3 ⟨rfl, hb3⟩
          have HK1 := Lib.hid hk1; clear hk1
          go_wp2
          go_ret2
          refine ApplyPost.bad ?_ (hbw2.trans (hb3.mono hbw2.size))
          rw [HRK.out]; unfold applyE; rw [HST.out, HK1.out]
        | some k1 =>
          rintro x w3 ⟨rfl, hb3⟩
          have hf3 := Five.below ⟨d0, d1, d2, d3, d4⟩ hg2 hb3
          have hg3 := Nat.lt_of_lt_of_le hg2 hb3.size
          have hbw3 := hbw2.trans (hb3.mono hbw2.size)
          have hT3 := hT2.below hb3
          clear d0 d1 d2 d3 d4 hg2 hb3 hT2 hbw2
          obtain ⟨d0, d1, d2, d3, d4⟩ := hf3
          have hk1l := (posK_is qs e.l e.c)
          rw [hk1] at hk1l
          have hk1l := hk1l.1
          have HK1 := Lib.hid hk1; clear hk1
          go_wp2_with fail
          refine (find_any S qs HSq.out haq hSl e.el e.ec hm3 _ (Lib.hid (posK_is qs e.el e.ec)) w3 hT3).mono ?_
          cases hk2 : posK qs e.el e.ec with
          | none =>
            rintro x w4 ⟨rfl, hb4⟩
            have HK2 := Lib.hid hk2; clear hk2
            go_wp2
            go_ret2
            refine ApplyPost.bad ?_ (hbw3.trans (hb4.mono hbw3.size))
            rw [HRK.out]; unfold applyE; rw [HST.out, HK1.out]; simp only []; rw [HK2.out]
          | some k2 =>
            rintro x w4 ⟨rfl, hb4⟩
            have hf4 := Five.below ⟨d0, d1, d2, d3, d4⟩ hg3 hb4
            have hbw4 := hbw3.trans (hb4.mono hbw3.size)
            clear d0 d1 d2 d3 d4 hg3 hb4 hT3 hbw3
            obtain ⟨d0, d1, d2, d3, d4⟩ := hf4
            have hk2l := (posK_is qs e.el e.ec)
            rw [hk2] at hk2l
            have hk2l := hk2l.1
            have HK2 := Lib.hid hk2; clear hk2
            have hst := HST.out
            rw [HK1.out] at hst
            simp only [] at hst
            rw [HK2.out] at hst
            simp only [] at hst
            have hSz := txt_size S qs HSq.out
            have hTz := txt_size e.t ts HTS.out
            have hp1 := plc_le qs k1
            have hp2 := plc_le qs k2
            have htk := take_txt qs k1
            have htd := drop_txt qs k2
            rw [← hSz] at hst hp1 hp2
            rw [← hTz] at hst
            obtain ⟨p1, hp1e⟩ : ∃ p, p = (plc qs k1).1 := ⟨_, rfl⟩
            obtain ⟨p2, hp2e⟩ : ∃ p, p = (plc qs k2).1 := ⟨_, rfl⟩
            dsimp only
            rw [← hp1e] at hst hp1 htk ⊢
            rw [← hp2e] at hst hp2 htd ⊢
            have HST2 := Lib.hid hst; clear hst HST
            have HTK := Lib.hid htk; clear htk
            have HTD := Lib.hid htd; clear htd
            have HP1 := Lib.hid hp1e; clear hp1e
            have HP2 := Lib.hid hp2e; clear hp2e
            have HSZ := Lib.hid hSz; clear hSz
            have HTZ := Lib.hid hTz; clear hTz
            by_cases hlt2 : p2 < p1
            · go_wp2
              go_ret2
              refine ApplyPost.bad ?_ hbw4
              rw [HRK.out]; unfold applyE; rw [HST2.out, if_pos hlt2]
            · by_cases hbig : 32768 < p1 + e.t.size + S.size - p2
              · have hbig' : decide ((32768 : Int) < (p1 : Int) + e.t.size + S.size - p2) = true := decide_eq_true (by omega)
                go_wp2
                go_ret2
                refine ApplyPost.bad ?_ hbw4
                rw [HRK.out]; unfold applyE; rw [HST2.out, if_neg hlt2, if_pos hbig]
              · have hbig' : decide ((32768 : Int) < (p1 : Int) + e.t.size + S.size - p2) = false := decide_eq_false (by omega)
                go_wp2_with fail
                go_region
                go_wp2
                go_roundw
                case rel =>
                  refine ⟨k + 1, _, qs.take k1 ++ ts ++ qs.drop k2, by omega, by go_num, rfl, ?_, ?_, Lib.hid ?_, Lib.hid ?_, ?_⟩
                  · simp; omega
                  · exact ((haq.take k1).append hat).append (haq.drop k2)
                  · simp only [ByteArray.data_append, Array.toList_append]
                    rw [extract_l S _ _ _ HSq.out, extract_l S _ _ _ HSq.out, List.drop_zero, Nat.sub_zero, HTK.out, HTD.out, HTS.out, txt_append, txt_append]
                    have h1 := congrArg List.length HTD.out
                    have h2 := HSZ.out
                    rw [List.length_drop] at h1
                    rw [List.take_of_length_le (l := txt (qs.drop k2)) (by omega)]
                  · rw [HRK.out]; conv => lhs; unfold applyE; rw [HST2.out, if_neg hlt2, if_neg hbig]
                  · exact hbw4.drew
                case measure => simp [intOf]; omega
      · rw [hbad]
        have hst : stepE qs e = .error 40 := by unfold stepE; rw [runesOf_bad hbad]
        have HST := Lib.hid hst; clear hst
        clear hf2
        go_wp2
        go_ret2
        refine ApplyPost.bad ?_ hbw2
        rw [HRK.out]; unfold applyE; rw [HST.out]
    · have hkl : k = es.length := by omega
      have HKL := Lib.hid hkl; clear hkl hat
      go_wp2
      go_ret2
      have h1 := HRk.out
      rw [HKL.out, List.drop_length] at h1
      exact ApplyPost.good h1 HSq.out hbw
end Go.Proofs.YtdldkidccjkhgaaDoor
