/- Open. -/
import Derived.Test.YtpdelgjfamelfaaGreatJ15
import Derived.Deep.CutRange
namespace Go.Proofs.YtpdelgjfamelfaaGreat
open Go.RowKit Go.Lib Go.Vfs Go.Par Go.Shelf
set_option linter.unusedVariables false
set_option linter.unusedSimpArgs false

def open1 (st : St) : St × Int := if hasF st.files nNext then stRemove st nNext else (st, 0)
def openBase (st : St) : Option (Nat × List (List UInt8)) := match findL File.name nBase st.files with | none => some (0, []) | some f => baseOf f.data
def openRecs (st : St) (g : Nat) : List (List UInt8) := match findL File.name nLog st.files with | none => [] | some f => pays (sameGen g (frs f.data))
def open2 (st : St) (g : Nat) : St × Int := match findL File.name nLog st.files with | none => (st, 0) | some f => if endOf (sameGen g (frs f.data)) < f.data.length then stTruncate st nLog (endOf (sameGen g (frs f.data)) : Nat) else (st, 0)
def openSt (st : St) : St × Except Int (Nat × List (List UInt8) × List (List UInt8)) :=
  if (open1 st).2 = 0 then (match openBase (open1 st).1 with
    | none => ((open1 st).1, .error 200)
    | some x => if (open2 (open1 st).1 x.1).2 = 0 then ((open2 (open1 st).1 x.1).1, .ok (x.1, x.2, openRecs (open1 st).1 x.1)) else ((open2 (open1 st).1 x.1).1, .error (open2 (open1 st).1 x.1).2))
  else ((open1 st).1, .error (open1 st).2)
/-- what Open hands back. -/
def OpenRes (w w' : World) (p : Nat) (F' : Nat → Prop) (r : St × Except Int (Nat × List (List UInt8) × List (List UInt8))) (e : Ending) : Prop := match r.2 with
  | .error n => e = .returned (.tuple #[.pointer none, .int .i64 n])
  | .ok x => ∃ pj G, e = .returned (.tuple #[.pointer (some ⟨pj, 0, none⟩), .int .i64 0]) ∧ JF w' pj p r.1 x.1 x.2.1 x.2.2 F' G ∧ ∀ k, G k → w.heap.size ≤ k
def OpenPost (w : World) (p : Nat) (F : Nat → Prop) (r : St × Except Int (Nat × List (List UInt8) × List (List UInt8))) (e : Ending) (w' : World) : Prop := ∃ F', Fsy w' p r.1 F' ∧ Kept F w w' ∧ Grows w F F' ∧ OpenRes w w' p F' r e
/-- a journal that is being opened. -/
structure OI (w : World) (p : Nat) (F : Nat → Prop) (pj : Nat) (st : St) (gen : Nat) (lv : Value) (us : List Value) (base log : List (List UInt8)) (F' G : Nat → Prop) (W : World) : Prop where
  fs : Fsy W p st F'
  jv : ∃ bv bs, JV W pj p gen bv lv bs us base log G
  kept : Kept F w W
  grows : Grows w F F'
  new : ∀ k, G k → w.heap.size ≤ k
  apart : ∀ k, G k → ¬ F' k
section
variable {w W W' : World} {p pj gen : Nat} {F F' G : Nat → Prop} {st : St} {lv : Value} {us : List Value} {base log : List (List UInt8)}
theorem OI.below (h : OI w p F pj st gen lv us base log F' G W) (hb : Below W.heap.size W W') : OI w p F pj st gen lv us base log F' G W' := by
  obtain ⟨bv, bs, hj⟩ := h.jv
  exact ⟨h.fs.below hb, ⟨bv, bs, hj.go hb⟩, h.kept.trans' (Kept.of_below hb), h.grows, h.new, h.apart⟩
/-- the journal alone was changed. -/
theorem OI.turn (h : OI w p F pj st gen lv us base log F' G W) (hk : Kept G W W') {gen' : Nat} {bv' lv' : Value} {bs' us' : List Value} {base' log' : List (List UInt8)} {G' : Nat → Prop} (hj : JV W' pj p gen' bv' lv' bs' us' base' log' G') (hg : Grows W G G') : OI w p F pj st gen' lv' us' base' log' F' G' W' := by
  have hz := h.kept.size
  refine ⟨h.fs.keep fun k hk2 => hk.block k (h.fs.lt k hk2) (fun hg2 => h.apart k hg2 hk2), ⟨_, _, hj⟩, ⟨hk.os.trans h.kept.os, hk.tape.trans h.kept.tape, hk.output.trans h.kept.output, Nat.le_trans hz hk.size, fun k h1 h2 => ?_⟩, h.grows, fun k h1 => ?_, fun k h1 h2 => ?_⟩
  · exact (hk.block k (by omega) (fun hg2 => by have := h.new k hg2; omega)).trans (h.kept.block k h1 h2)
  · rcases hg k h1 with h3 | h3
    · exact h.new k h3
    · omega
  · rcases hg k h1 with h3 | h3
    · exact h.apart k h3 h2
    · have := h.fs.lt k h2; omega
theorem OI.alone (h : OI w p F pj st gen lv us base log F' G W) (hk : Kept G W W') : Fsy W' p st F' ∧ Kept F w W' := by
  have hz := h.kept.size
  refine ⟨h.fs.keep fun k hk2 => hk.block k (h.fs.lt k hk2) (fun hg2 => h.apart k hg2 hk2), hk.os.trans h.kept.os, hk.tape.trans h.kept.tape, hk.output.trans h.kept.output, Nat.le_trans hz hk.size, fun k h1 h2 => ?_⟩
  exact (hk.block k (by omega) (fun hg2 => by have := h.new k hg2; omega)).trans (h.kept.block k h1 h2)
theorem OI.done (h : OI w p F pj st gen lv us base log F' G W) : JF W pj p st gen base log F' G := by
  obtain ⟨bv, bs, hj⟩ := h.jv
  exact ⟨h.fs, ⟨bv, lv, bs, us, hj⟩, h.apart⟩
/-- behind a call of the files. -/
theorem OI.files (h : OI w p F pj st gen lv us base log F' G W) {st2 : St} {F2 : Nat → Prop} (hf : Fsy W' p st2 F2) (hk : Kept F' W W') (hg : Grows W F' F2) : OI w p F pj st2 gen lv us base log F2 G W' := by
  obtain ⟨bv, bs, hj⟩ := h.jv
  have hz := h.kept.size
  refine ⟨hf, ⟨bv, bs, hj.kept hk h.apart⟩, ⟨hk.os.trans h.kept.os, hk.tape.trans h.kept.tape, hk.output.trans h.kept.output, Nat.le_trans hz hk.size, fun k h1 h2 => ?_⟩, fun k h1 => ?_, h.new, fun k h1 h2 => ?_⟩
  · refine (hk.block k (by omega) (fun hf2 => ?_)).trans (h.kept.block k h1 h2)
    rcases h.grows k hf2 with h3 | h3
    · exact h2 h3
    · omega
  · rcases hg k h1 with h3 | h3
    · exact h.grows k h3
    · right; omega
  · rcases hg k h2 with h3 | h3
    · exact h.apart k h1 h3
    · have := hj.lt k h1; omega
end
set_option maxRecDepth 100000 in
set_option maxHeartbeats 4000000 in
theorem jopen_any (w : World) (p : Nat) (st : St) (F : Nat → Prop) (hf : Fsy w p st F) {k d : Nat} (hc : Calm st.files k d) (hk : k ≤ 1000) (hd : d ≤ 2000000) (hpw : st.power ≤ 9223372036854775807) :
    Calls Tryz.prog 13 #[.pointer (some ⟨p, 0, none⟩)] w (OpenPost w p F (openSt st)) := by
  have HF := Lib.hid hf; have HC := Lib.hid hc; have HB := Lib.hid (And.intro hk (And.intro hd hpw))
  have HHAS := Lib.hid (has_any w p st F hf (by have := hc.files; omega) hc.short nNext)
  have HREM : Hid (∀ W, Below w.heap.size w W → hasF st.files nNext = true → Calls Tryz.prog 46 #[.pointer (some ⟨p, 0, none⟩), .string ⟨#[110, 101, 120, 116]⟩] W fun e W' => e = .returned (.int .i64 (open1 st).2) ∧ Hid (∃ F', Fsy W' p (open1 st).1 F' ∧ Kept F w W' ∧ Grows w F F')) := Lib.hid fun W hW hh => by
    refine (remove_any W p st F (HF.out.below hW) ⟨#[110, 101, 120, 116]⟩ (by decide) hpw).mono ?_
    rintro e W' ⟨F', rfl, h1, h2, h3⟩
    rw [show (ByteArray.mk #[110, 101, 120, 116]).data.toList = nNext from rfl] at h1 ⊢
    have e1 : open1 st = stRemove st nNext := by unfold open1; rw [if_pos hh]
    rw [e1]
    exact ⟨rfl, Lib.hid ⟨F', h1, (Kept.of_below (F := F) hW).trans h2 (Grows.refl _ _), fun k hk => (h3 k hk).imp id (fun h => by have := hW.size; omega)⟩⟩
  have HCM : Hid (Calm (open1 st).1.files k d ∧ (open1 st).1.power ≤ 9223372036854775807) := Lib.hid (by
    unfold open1
    split
    · unfold stRemove
      split
      · exact ⟨hc, hpw⟩
      · exact ⟨hc.do (hc.dropL nNext), do_power hpw⟩
    · exact ⟨hc, hpw⟩)
  clear hf hc hk hd hpw
  by_cases he1 : (open1 st).2 = 0
  case neg =>
    have hh : hasF st.files nNext = true := by
      cases h : hasF st.files nNext with
      | true => rfl
      | false => exfalso; apply he1; unfold open1; rw [h]; rfl
    have HOS : Hid (openSt st = ((open1 st).1, .error (open1 st).2)) := Lib.hid (by unfold openSt; rw [if_neg he1])
    rw [hh] at HHAS
    have heb : ((open1 st).2 != 0) = true := by simpa using he1
    have HR := Lib.hid (fun W hW => HREM.out W hW hh)
    clear he1 hh HREM HCM
    generalize (open1 st).2 = er at *
    go_enter Tryz.func13, Tryz.ntmps13
    go_wp2_with fail
    refine HHAS.out.mono ?_
    rintro e w1 ⟨rfl, hb1⟩
    have HB1 := Lib.hid hb1; clear hb1
    go_wp2_with fail
    refine (HR.out w1 HB1.out).mono ?_
    rintro e w2 ⟨rfl, HX⟩
    go_wp2
    go_ret2
    obtain ⟨F', h1, h2, h3⟩ := HX.out
    rw [HOS.out]
    exact ⟨F', h1, h2, h3, rfl⟩
  case pos =>
    obtain ⟨st1, hst1⟩ : ∃ st1, st1 = (open1 st).1 := ⟨_, rfl⟩
    have HOS : Hid (openSt st = match openBase st1 with
      | none => (st1, .error 200)
      | some x => if (open2 st1 x.1).2 = 0 then ((open2 st1 x.1).1, .ok (x.1, x.2, openRecs st1 x.1)) else ((open2 st1 x.1).1, .error (open2 st1 x.1).2)) := Lib.hid (by unfold openSt; rw [if_pos he1, ← hst1])
    rw [← hst1, he1] at HREM
    rw [← hst1] at HCM
    have HNO : Hid (hasF st.files nNext = false → st1 = st) := Lib.hid fun h => by rw [hst1]; unfold open1; rw [h]; rfl
    clear hst1 he1
    go_enter Tryz.func13, Tryz.ntmps13
    go_wp2_with fail
    refine HHAS.out.mono ?_
    rintro e w1 ⟨rfl, hb1⟩
    have HB1 := Lib.hid hb1; clear hb1
    go_upto_if 15 with fail
    go_cut [] (fun W => Hid (∃ F', Fsy W p st1 F' ∧ Kept F w W ∧ Grows w F F'))
    case first =>
      cases hh : hasF st.files nNext
      · have HX : Hid (∃ F', Fsy w1 p st1 F' ∧ Kept F w w1 ∧ Grows w F F') := Lib.hid ⟨F, by rw [HNO.out hh]; exact HF.out.below HB1.out, Kept.of_below HB1.out, Grows.refl _ _⟩
        clear hh
        go_wp2
        go_meet
        exact HX
      · have HR := Lib.hid (HREM.out w1 HB1.out hh)
        clear hh
        go_wp2_with fail
        refine HR.out.mono ?_
        rintro e w2 ⟨rfl, HX⟩
        go_wp2
        go_meet
        exact HX
    case rest =>
      obtain ⟨F1, hf1, hk1, hg1⟩ := hcut.out
      have HF1 := Lib.hid hf1; have HK1 := Lib.hid hk1; have HG1 := Lib.hid hg1
      obtain ⟨W1, rfl⟩ : ∃ W1, W1 = wc := ⟨_, rfl⟩
      have HCM2 := HCM.out
      clear hcut hf1 hk1 hg1 HREM HNO HHAS HB1 w1
      obtain ⟨W2, hW2⟩ : ∃ W2, W2 = W1.alloc (.cells #[.pointer (some ⟨p, 0, none⟩), .int .u32 0, .slice none 0 0, .slice none 0 0] 94) := ⟨_, rfl⟩
      have hh2 : W2.heap[W1.heap.size]? = some (.cells #[.pointer (some ⟨p, 0, none⟩), .int .u32 0, .slice none 0 0, .slice none 0 0] 94 (0, 0)) := by rw [hW2]; exact heap_alloc_new W1 _
      have hb2 : Below W1.heap.size W1 W2 := by rw [hW2]; exact box_below W1 _
      have hjv2 := JV.fresh (gen := 0) (p := p) (B := W2.heap.size) (u := .slice none 0 0) (us := []) (rows := []) hh2 (Par.Own.nil _ _ _) rfl (by rw [hW2]; simp) (fun i hi => by simp at hi) (by omega)
      have hgf : ∀ j, GF W2 W1.heap.size W2.heap.size (.slice none 0 0) j → j = W1.heap.size := fun j hj => by
        rcases hj with hj | hj | ⟨hj, -, o, ho, -⟩
        · exact hj
        · cases hj
        · have := lt_of_block ho; omega
      have HOI : Hid (OI w p F W1.heap.size st1 0 (.slice none 0 0) [] [] [] F1 (GF W2 W1.heap.size W2.heap.size (.slice none 0 0)) W2) := Lib.hid ⟨HF1.out.below hb2, ⟨_, _, hjv2⟩, HK1.out.trans' (Kept.of_below hb2), HG1.out, fun j hj => by rw [hgf j hj]; exact HK1.out.size, fun j hj hf => by have := HF1.out.lt j hf; rw [hgf j hj] at this; omega⟩
      have HJ2 := Lib.hid hjv2
      have HRD := Lib.hid (read_any W2 p st1 F1 HOI.out.fs ⟨#[98, 97, 115, 101]⟩ (by decide) (fun f hf => by have := HCM2.1.data f hf; have := HB.out; omega))
      rw [show (ByteArray.mk #[98, 97, 115, 101]).data.toList = nBase from rfl] at HRD
      generalize hG2 : GF W2 W1.heap.size W2.heap.size (.slice none 0 0) = G2 at *
      clear hjv2 hgf hG2 HCM2
      -- HERE
      cases hfb : findL File.name nBase st1.files with
      | none =>
        have HSF := Lib.hid (stFind_none (st := st1) (s := nBase) (by decide) hfb)
        have HOB : Hid (openBase st1 = some (0, [])) := Lib.hid (by unfold openBase; rw [hfb])
        clear hfb
        go_wp2_with fail
        rw [← hW2]
        refine HRD.out.mono ?_
        rintro e w3 ⟨hb3, hpost⟩
        rw [HSF.out] at hpost
        simp only at hpost
        subst hpost
        obtain ⟨g, hg⟩ : ∃ g, g = 0 := ⟨_, rfl⟩
        obtain ⟨ps, hps⟩ : ∃ ps : List (List UInt8), ps = [] := ⟨_, rfl⟩
        have HO : Hid (OI w p F W1.heap.size st1 g (.slice none 0 0) [] ps [] F1 G2 w3) := Lib.hid (by rw [hg, hps]; exact HOI.out.below hb3)
        rw [← hg, ← hps] at HOB
        clear hg hps HOI HJ2 HRD hb3 HSF
        obtain ⟨G3, hG3⟩ : ∃ G3, G3 = G2 := ⟨_, rfl⟩
        rw [← hG3] at HO
        clear hG3 hh2 hb2 hW2
        have hbool : ((11 : Int) == 0) = false := by decide
        have HRL := Lib.hid (read_any w3 p st1 F1 HO.out.fs ⟨#[108, 111, 103]⟩ (by decide) (fun f hf => by have := HCM.out.1.data f hf; have := HB.out; omega))
        rw [show (ByteArray.mk #[108, 111, 103]).data.toList = nLog from rfl] at HRL
        have HOS2 : Hid (openSt st = if (open2 st1 g).2 = 0 then ((open2 st1 g).1, .ok (g, ps, openRecs st1 g)) else ((open2 st1 g).1, .error (open2 st1 g).2)) := Lib.hid (by rw [HOS.out, HOB.out])
        clear HOS HOB
        cases hfl : findL File.name nLog st1.files with
        | none =>
          have HSF := Lib.hid (stFind_none (st := st1) (s := nLog) (by decide) hfl)
          have HO2 : Hid (open2 st1 g = (st1, 0) ∧ openRecs st1 g = []) := Lib.hid (by unfold open2 openRecs; rw [hfl]; exact ⟨rfl, rfl⟩)
          clear hfl
          go_wp2_with fail
          refine HRL.out.mono ?_
          rintro e w5 ⟨hb5, hpost⟩
          rw [HSF.out] at hpost
          simp only at hpost
          subst hpost
          have HO5 := Lib.hid (HO.out.below hb5)
          clear HRL hb5 HO
          go_wp2
          go_ret2
          rw [HOS2.out, HO2.out.1, HO2.out.2]
          exact ⟨F1, HO5.out.fs, HO5.out.kept, HO5.out.grows, W1.heap.size, G3, rfl, HO5.out.done, HO5.out.new⟩
        | some f2 =>
          have HSF := Lib.hid (stFind_of (st := st1) (s := nLog) (by decide) hfl)
          have hfd2 : f2.data.length ≤ 2000000 := by have := HCM.out.1.data f2 (findL_some hfl).1; have := HB.out; omega
          have HO2 : Hid (open2 st1 g = (if endOf (sameGen g (frs f2.data)) < f2.data.length then stTruncate st1 nLog (endOf (sameGen g (frs f2.data)) : Nat) else (st1, 0)) ∧ openRecs st1 g = pays (sameGen g (frs f2.data))) := Lib.hid (by unfold open2 openRecs; rw [hfl]; exact ⟨rfl, rfl⟩)
          clear hfl
          go_wp2_with fail
          refine HRL.out.mono ?_
          rintro e w5 ⟨hb5, hpost⟩
          rw [HSF.out] at hpost
          simp only at hpost
          obtain ⟨u5, rfl, hu5⟩ := hpost
          obtain ⟨A5, c5, hform⟩ := hu5.form
          rw [byteCells_length] at hform
          subst hform
          have HO5 := Lib.hid (HO.out.below hb5)
          have hz5 : ∀ j, G3 j → j < w3.heap.size := by
            obtain ⟨bv, bs, hj⟩ := HO.out.jv
            exact hj.lt
          obtain ⟨bv5, bs5, hj5⟩ := HO5.out.jv
          have HRDL := Lib.hid (readLog_any w5 W1.heap.size p g bv5 (.slice none 0 0) bs5 [] ps [] G3 hj5 A5 c5 f2.data ((own_seg hu5).keep fun j hj => ⟨⟨(hu5.lt j hj).2, fun hg => by have := hz5 j hg; have := (hu5.lt j hj).1; omega⟩, rfl⟩) hfd2 (by simp))
          clear hu5 hz5 hb5 HRL HO hj5 HSF
          go_wp2_with fail
          refine HRDL.out.mono ?_
          rintro e w6 ⟨lv6, us6, G6, rfl, hj6, hk6, hg6⟩
          rw [List.nil_append] at hj6
          have HO6 := Lib.hid (HO5.out.turn hk6 hj6 hg6)
          clear HRDL HO5 hj6 hk6 hg6
          generalize endOf (sameGen g (frs f2.data)) = E at *
          generalize pays (sameGen g (frs f2.data)) = L at *
          generalize f2.data.length = N at *
          by_cases hlt : E < N
          · have HO7 : Hid (open2 st1 g = stTruncate st1 nLog (E : Nat)) := Lib.hid (by rw [HO2.out.1, if_pos hlt])
            have HT := Lib.hid (truncate_any w6 p st1 F1 HO6.out.fs ⟨#[108, 111, 103]⟩ (by decide) HCM.out.2 (E : Nat))
            rw [show (ByteArray.mk #[108, 111, 103]).data.toList = nLog from rfl, ← HO7.out] at HT
            clear HO7
            obtain ⟨r2, hr2⟩ : ∃ r2, r2 = open2 st1 g := ⟨_, rfl⟩
            rw [← hr2] at HT HOS2
            clear hr2
            by_cases her : r2.2 = 0
            · have HER := Lib.hid her
              have hT2 : Calls Tryz.prog 50 #[.pointer (some ⟨p, 0, none⟩), .string ⟨#[108, 111, 103]⟩, .int .i64 (E : Nat)] w6 fun e w' => e = .returned (.int .i64 0) ∧ Hid (∃ F', Fsy w' p r2.1 F' ∧ Kept F1 w6 w' ∧ Grows w6 F1 F') := HT.out.mono (by
                rintro e w' ⟨F', rfl, h1, h2, h3⟩
                exact ⟨by rw [HER.out], Lib.hid ⟨F', h1, h2, h3⟩⟩)
              have HT2 := Lib.hid hT2
              clear hT2 her HT
              go_wp2_with fail
              refine HT2.out.mono ?_
              rintro e w7 ⟨rfl, HX⟩
              go_wp2
              go_ret2
              obtain ⟨F7, h1, h2, h3⟩ := HX.out
              have HO7 := HO6.out.files h1 h2 h3
              rw [HOS2.out, HER.out, if_pos rfl, HO2.out.2]
              exact ⟨F7, h1, HO7.kept, HO7.grows, W1.heap.size, G6, rfl, HO7.done, HO7.new⟩
            · obtain ⟨er, he⟩ : ∃ er, er = r2.2 := ⟨_, rfl⟩
              have heb : (er != 0) = true := by rw [he]; simpa using her
              have HER := Lib.hid (And.intro he her)
              have hT2 : Calls Tryz.prog 50 #[.pointer (some ⟨p, 0, none⟩), .string ⟨#[108, 111, 103]⟩, .int .i64 (E : Nat)] w6 fun e w' => e = .returned (.int .i64 er) ∧ Hid (∃ F', Fsy w' p r2.1 F' ∧ Kept F1 w6 w' ∧ Grows w6 F1 F') := HT.out.mono (by
                rintro e w' ⟨F', rfl, h1, h2, h3⟩
                exact ⟨by rw [HER.out.1], Lib.hid ⟨F', h1, h2, h3⟩⟩)
              have HT2 := Lib.hid hT2
              clear hT2 her HT he
              go_wp2_with fail
              refine HT2.out.mono ?_
              rintro e w7 ⟨rfl, HX⟩
              go_wp2
              go_ret2
              obtain ⟨F7, h1, h2, h3⟩ := HX.out
              have HO7 := HO6.out.files h1 h2 h3
              rw [HOS2.out, if_neg HER.out.2, HER.out.1]
              exact ⟨F7, h1, HO7.kept, HO7.grows, rfl⟩
          · have HO7 : Hid (open2 st1 g = (st1, 0)) := Lib.hid (by rw [HO2.out.1, if_neg hlt])
            go_wp2
            go_ret2
            rw [HOS2.out, HO7.out, HO2.out.2]
            exact ⟨F1, HO6.out.fs, HO6.out.kept, HO6.out.grows, W1.heap.size, G6, rfl, HO6.out.done, HO6.out.new⟩
      | some f =>
        have HSF := Lib.hid (stFind_of (st := st1) (s := nBase) (by decide) hfb)
        have hfd : f.data.length ≤ 2000000 := by have := HCM.out.1.data f (findL_some hfb).1; have := HB.out; omega
        have HOB0 : Hid (openBase st1 = baseOf f.data) := Lib.hid (by unfold openBase; rw [hfb])
        clear hfb
        go_wp2_with fail
        rw [← hW2]
        refine HRD.out.mono ?_
        rintro e w3 ⟨hb3, hpost⟩
        rw [HSF.out] at hpost
        simp only at hpost
        obtain ⟨u, rfl, hu⟩ := hpost
        obtain ⟨A, c, hform⟩ := hu.form
        rw [byteCells_length] at hform
        subst hform
        have HO3 := Lib.hid (HOI.out.below hb3)
        have HJ3 := Lib.hid (HJ2.out.go hb3)
        have hz2 : ∀ j, G2 j → j < W2.heap.size := HJ2.out.lt
        have HRB := Lib.hid (readBase_any w3 W1.heap.size p (.slice none 0 0) [] [] G2 HJ3.out A c f.data ((own_seg hu).keep fun j hj => ⟨⟨(hu.lt j hj).2, fun hg => by have := hz2 j hg; have := (hu.lt j hj).1; omega⟩, rfl⟩) hfd)
        clear hu hz2 HOI HJ2 HRD HSF hh2 hb2 hW2 HJ3 hb3
        cases hbo : baseOf f.data with
        | none =>
          have HOB : Hid (openBase st1 = none) := Lib.hid (by rw [HOB0.out]; exact hbo)
          rw [hbo] at HRB
          clear hbo
          go_wp2_with fail
          refine HRB.out.mono ?_
          rintro e w4 ⟨rfl, hk4, -⟩
          have HX := Lib.hid (HO3.out.alone hk4)
          clear hk4 HRB
          go_wp2
          go_ret2
          rw [HOS.out, HOB.out]
          exact ⟨F1, HX.out.1, HX.out.2, HG1.out, rfl⟩
        | some x =>
          obtain ⟨g, ps⟩ := x
          have HOB : Hid (openBase st1 = some (g, ps)) := Lib.hid (by rw [HOB0.out]; exact hbo)
          rw [hbo] at HRB
          clear hbo
          go_wp2_with fail
          refine HRB.out.mono ?_
          rintro e w4 ⟨rfl, hk4, hj4⟩
          obtain ⟨bv4, bs4, G3, h4, h5⟩ := hj4 g ps rfl
          have HO := Lib.hid (HO3.out.turn hk4 h4 h5)
          clear hk4 hj4 h4 h5 HRB HO3 HOB0
          obtain ⟨w3, rfl⟩ : ∃ w3, w3 = w4 := ⟨_, rfl⟩
          have HRL := Lib.hid (read_any w3 p st1 F1 HO.out.fs ⟨#[108, 111, 103]⟩ (by decide) (fun f hf => by have := HCM.out.1.data f hf; have := HB.out; omega))
          rw [show (ByteArray.mk #[108, 111, 103]).data.toList = nLog from rfl] at HRL
          have HOS2 : Hid (openSt st = if (open2 st1 g).2 = 0 then ((open2 st1 g).1, .ok (g, ps, openRecs st1 g)) else ((open2 st1 g).1, .error (open2 st1 g).2)) := Lib.hid (by rw [HOS.out, HOB.out])
          clear HOS HOB
          cases hfl : findL File.name nLog st1.files with
          | none =>
            have HSF := Lib.hid (stFind_none (st := st1) (s := nLog) (by decide) hfl)
            have HO2 : Hid (open2 st1 g = (st1, 0) ∧ openRecs st1 g = []) := Lib.hid (by unfold open2 openRecs; rw [hfl]; exact ⟨rfl, rfl⟩)
            clear hfl
            go_wp2_with fail
            refine HRL.out.mono ?_
            rintro e w5 ⟨hb5, hpost⟩
            rw [HSF.out] at hpost
            simp only at hpost
            subst hpost
            have HO5 := Lib.hid (HO.out.below hb5)
            clear HRL hb5 HO
            go_wp2
            go_ret2
            rw [HOS2.out, HO2.out.1, HO2.out.2]
            exact ⟨F1, HO5.out.fs, HO5.out.kept, HO5.out.grows, W1.heap.size, G3, rfl, HO5.out.done, HO5.out.new⟩
          | some f2 =>
            have HSF := Lib.hid (stFind_of (st := st1) (s := nLog) (by decide) hfl)
            have hfd2 : f2.data.length ≤ 2000000 := by have := HCM.out.1.data f2 (findL_some hfl).1; have := HB.out; omega
            have HO2 : Hid (open2 st1 g = (if endOf (sameGen g (frs f2.data)) < f2.data.length then stTruncate st1 nLog (endOf (sameGen g (frs f2.data)) : Nat) else (st1, 0)) ∧ openRecs st1 g = pays (sameGen g (frs f2.data))) := Lib.hid (by unfold open2 openRecs; rw [hfl]; exact ⟨rfl, rfl⟩)
            clear hfl
            go_wp2_with fail
            refine HRL.out.mono ?_
            rintro e w5 ⟨hb5, hpost⟩
            rw [HSF.out] at hpost
            simp only at hpost
            obtain ⟨u5, rfl, hu5⟩ := hpost
            obtain ⟨A5, c5, hform⟩ := hu5.form
            rw [byteCells_length] at hform
            subst hform
            have HO5 := Lib.hid (HO.out.below hb5)
            have hz5 : ∀ j, G3 j → j < w3.heap.size := by
              obtain ⟨bv, bs, hj⟩ := HO.out.jv
              exact hj.lt
            obtain ⟨bv5, bs5, hj5⟩ := HO5.out.jv
            have HRDL := Lib.hid (readLog_any w5 W1.heap.size p g bv5 (.slice none 0 0) bs5 [] ps [] G3 hj5 A5 c5 f2.data ((own_seg hu5).keep fun j hj => ⟨⟨(hu5.lt j hj).2, fun hg => by have := hz5 j hg; have := (hu5.lt j hj).1; omega⟩, rfl⟩) hfd2 (by simp))
            clear hu5 hz5 hb5 HRL HO hj5 HSF
            go_wp2_with fail
            refine HRDL.out.mono ?_
            rintro e w6 ⟨lv6, us6, G6, rfl, hj6, hk6, hg6⟩
            rw [List.nil_append] at hj6
            have HO6 := Lib.hid (HO5.out.turn hk6 hj6 hg6)
            clear HRDL HO5 hj6 hk6 hg6
            generalize endOf (sameGen g (frs f2.data)) = E at *
            generalize pays (sameGen g (frs f2.data)) = L at *
            generalize f2.data.length = N at *
            by_cases hlt : E < N
            · have HO7 : Hid (open2 st1 g = stTruncate st1 nLog (E : Nat)) := Lib.hid (by rw [HO2.out.1, if_pos hlt])
              have HT := Lib.hid (truncate_any w6 p st1 F1 HO6.out.fs ⟨#[108, 111, 103]⟩ (by decide) HCM.out.2 (E : Nat))
              rw [show (ByteArray.mk #[108, 111, 103]).data.toList = nLog from rfl, ← HO7.out] at HT
              clear HO7
              obtain ⟨r2, hr2⟩ : ∃ r2, r2 = open2 st1 g := ⟨_, rfl⟩
              rw [← hr2] at HT HOS2
              clear hr2
              by_cases her : r2.2 = 0
              · have HER := Lib.hid her
                have hT2 : Calls Tryz.prog 50 #[.pointer (some ⟨p, 0, none⟩), .string ⟨#[108, 111, 103]⟩, .int .i64 (E : Nat)] w6 fun e w' => e = .returned (.int .i64 0) ∧ Hid (∃ F', Fsy w' p r2.1 F' ∧ Kept F1 w6 w' ∧ Grows w6 F1 F') := HT.out.mono (by
                  rintro e w' ⟨F', rfl, h1, h2, h3⟩
                  exact ⟨by rw [HER.out], Lib.hid ⟨F', h1, h2, h3⟩⟩)
                have HT2 := Lib.hid hT2
                clear hT2 her HT
                go_wp2_with fail
                refine HT2.out.mono ?_
                rintro e w7 ⟨rfl, HX⟩
                go_wp2
                go_ret2
                obtain ⟨F7, h1, h2, h3⟩ := HX.out
                have HO7 := HO6.out.files h1 h2 h3
                rw [HOS2.out, HER.out, if_pos rfl, HO2.out.2]
                exact ⟨F7, h1, HO7.kept, HO7.grows, W1.heap.size, G6, rfl, HO7.done, HO7.new⟩
              · obtain ⟨er, he⟩ : ∃ er, er = r2.2 := ⟨_, rfl⟩
                have heb : (er != 0) = true := by rw [he]; simpa using her
                have HER := Lib.hid (And.intro he her)
                have hT2 : Calls Tryz.prog 50 #[.pointer (some ⟨p, 0, none⟩), .string ⟨#[108, 111, 103]⟩, .int .i64 (E : Nat)] w6 fun e w' => e = .returned (.int .i64 er) ∧ Hid (∃ F', Fsy w' p r2.1 F' ∧ Kept F1 w6 w' ∧ Grows w6 F1 F') := HT.out.mono (by
                  rintro e w' ⟨F', rfl, h1, h2, h3⟩
                  exact ⟨by rw [HER.out.1], Lib.hid ⟨F', h1, h2, h3⟩⟩)
                have HT2 := Lib.hid hT2
                clear hT2 her HT he
                go_wp2_with fail
                refine HT2.out.mono ?_
                rintro e w7 ⟨rfl, HX⟩
                go_wp2
                go_ret2
                obtain ⟨F7, h1, h2, h3⟩ := HX.out
                have HO7 := HO6.out.files h1 h2 h3
                rw [HOS2.out, if_neg HER.out.2, HER.out.1]
                exact ⟨F7, h1, HO7.kept, HO7.grows, rfl⟩
            · have HO7 : Hid (open2 st1 g = (st1, 0)) := Lib.hid (by rw [HO2.out.1, if_neg hlt])
              go_wp2
              go_ret2
              rw [HOS2.out, HO7.out, HO2.out.2]
              exact ⟨F1, HO6.out.fs, HO6.out.kept, HO6.out.grows, W1.heap.size, G6, rfl, HO6.out.done, HO6.out.new⟩
end Go.Proofs.YtpdelgjfamelfaaGreat
