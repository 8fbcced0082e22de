/- scheme.Decode. -/
import Derived.Test.YtbhicpjhijondaaDoorX18
namespace Go.Proofs.YtbhicpjhijondaaDoor
open Go.RowKit Go.Lib Go.Vfs Go.Par Go.Typ Go.Shelf
set_option linter.unusedVariables false
set_option linter.unusedSimpArgs false

/-- the exports of bytes. -/
def decX (L : List UInt8) : Option (List Ex) :=
  if 2 ≤ L.length ∧ numB (L.take 2) ≤ 1000 then (match exsR (numB (L.take 2)) [] (L.drop 2) with
    | none => none
    | some (xs, l) => if l = [] ∧ rightX xs = true then some xs else none)
  else none
def DecPost (L : List UInt8) (w : World) (e : Ending) (w' : World) : Prop :=
  Below w.heap.size w w' ∧ ∃ v', e = .returned (.tuple #[v', .int .i64 (if (decX L).isSome then 0 else 140)]) ∧ (∀ xs, decX L = some xs → ExsAt (fun g => w.heap.size ≤ g ∧ g < w'.heap.size) w' v' xs) ∧ (decX L = none → v' = .slice none 0 0)
theorem p_below {w W W' : World} {p : Nat} (hb : Below w.heap.size w W) (hk : Kept (· = p) W W') (hp : w.heap.size ≤ p) : Below w.heap.size w W' :=
  hb.trans (hk.below hb.size fun g e => by omega)
theorem none_post {L : List UInt8} {w W : World} (hb : Below w.heap.size w W) (h : decX L = none) : DecPost L w (.returned (.tuple #[.slice none 0 0, .int .i64 140])) W :=
  ⟨hb, .slice none 0 0, by rw [h]; rfl, (fun xs e => by rw [h] at e; cases e), fun _ => rfl⟩

set_option maxRecDepth 20000 in
set_option maxHeartbeats 1000000 in
theorem decode_any (L : List UInt8) (v : Value) (w : World) (hsg : Seg w w.heap.size v (byteCells L)) : Calls Tryd.prog 50 #[v] w (DecPost L w) := by
  obtain ⟨P, hP⟩ : ∃ P, P = DecPost L w := ⟨_, rfl⟩
  have HPO := Lib.hid hP
  rw [← hP]
  clear hP
  obtain ⟨p, hp⟩ : ∃ p, p = w.heap.size := ⟨_, rfl⟩
  obtain ⟨W1, hW1⟩ : ∃ W1, W1 = w.alloc (.cells #[v, .int .i64 0, .int .i64 0, .bool false] 96) := ⟨_, rfl⟩
  have hb1 : Below w.heap.size w W1 := by rw [hW1]; exact (Below.refl _ _).alloc (Nat.le_refl _) _
  have hr1 : RS L w.heap.size p v L 0 false W1 := ⟨0, rfl, by rw [hW1, hp]; exact heap_alloc_new _ _, hsg.below hb1, by omega, by omega⟩
  have hplt : p < W1.heap.size := hr1.lt
  have HN := Lib.hid (number_any L w.heap.size p v L 2 0 false W1 hr1 (by decide) (by decide))
  have HBW1 := Lib.hid hb1
  obtain ⟨A, c, rfl, hc, hm, -⟩ := hsg.open_bytes
  have HPP := Lib.hid hp
  clear hsg hr1 hb1
  go_enter Tryd.func50, Tryd.ntmps50
  go_upto_region 2 with fail
  rw [← hp, ← hW1]
  clear hW1 hp
  go_wp2_with fail
  refine HN.out.mono ?_
  rintro e w2 ⟨n, l2, bad2, rfl, h2, k2, ok2, no2⟩
  have HB2 : Hid (Below w.heap.size w w2) := Lib.hid (p_below HBW1.out k2 (by rw [HPP.out]; exact Nat.le_refl _))
  have HR2 := Lib.hid h2
  have hp2 : p < w2.heap.size := h2.lt
  have hn : n < 65536 := by
    cases bad2 with
    | true => have := (no2 rfl).2; omega
    | false =>
      obtain ⟨_, h2, h3, _⟩ := ok2 rfl
      have := numB_lt (L.take 2)
      rw [List.length_take, Nat.min_eq_left h2, ← h3] at this
      omega
  obtain ⟨R, hR⟩ : ∃ R, R = exsR n [] l2 := ⟨_, rfl⟩
  have HX2 : Hid ((bad2 = false → decX L = (if n ≤ 1000 then (match R with
    | none => none
    | some (xs, l) => if l = [] ∧ rightX xs = true then some xs else none) else none)) ∧ (bad2 = true → decX L = none ∧ n = 0)) := Lib.hid (by
    constructor
    · intro e
      obtain ⟨-, e1, e2, e3⟩ := ok2 e
      rw [hR, e2, e3, decX]
      by_cases h : numB (L.take 2) ≤ 1000
      · rw [if_pos ⟨e1, h⟩, if_pos h]
      · rw [if_neg (fun h' => h h'.2), if_neg h]
    · intro e
      obtain ⟨e1, e2⟩ := no2 e
      refine ⟨?_, e2⟩
      rw [decX, if_neg]
      rintro ⟨h, -⟩
      rcases e1 with e1 | e1
      · cases e1
      · omega)
  have HR := Lib.hid hR
  clear h2 k2 ok2 no2 HN HBW1 hR
  by_cases hbig : 1000 < n
  · have hbi : (1000 : Int) < (n : Int) := by omega
    have HE : Hid (P (.returned (.tuple #[.slice none 0 0, .int .i64 140])) w2) := Lib.hid (by
      rw [HPO.out]
      refine none_post HB2.out ?_
      cases hb : bad2 with
      | true => exact (HX2.out.2 hb).1
      | false => rw [HX2.out.1 hb, if_neg (by omega)])
    go_wp2
    exact HE.out
  have hbi : ¬ ((1000 : Int) < (n : Int)) := by omega
  go_upto_region 5 with fail
  go_wp2
  go_loopw [6, 7] (fun sv iv W => ∃ (k qk : Nat) (lk : List UInt8) (badk : Bool) (xs : List Ex) (us : List Value), k ≤ n ∧ iv = .int .i64 k ∧ Hid (RS L w.heap.size p (.slice A L.length c) lk qk badk W) ∧ Hid (RowK 46 5 ExAt (p + 1) (p + 1) W xs sv us) ∧ xs.length = k ∧ Hid (Below w.heap.size w W) ∧
    Hid ((badk = false → bad2 = false ∧ exsR (n - k) xs lk = R) ∧ (badk = true → bad2 = true ∨ R = none))) (fun _ iv _ => n - (RowKit.intOf iv).toNat)
  case atStart => exact ⟨0, 0, l2, bad2, [], [], by omega, rfl, HR2, Lib.hid (RowK.nil _), rfl, HB2, Lib.hid ⟨fun e => ⟨e, by rw [HR.out]; rfl⟩, fun e => .inl e⟩⟩
  case round =>
    obtain ⟨k, qk, lk, badk, xs, us, hk, rfl, HT, HRW, hxl, HB, HXK⟩ := hrel
    obtain ⟨ak, hak, hak2, r0, r1, r2, r3⟩ := HT.out.cells
    by_cases hgo : k < n ∧ badk = false
    · obtain ⟨hlt, rfl⟩ := hgo
      have HNM := Lib.hid (srname_any L w.heap.size p (.slice A L.length c) lk qk false wr HT.out)
      go_wp2_with fail
      refine HNM.out.mono ?_
      rintro e w3 ⟨s, l3, bad3, rfl, hs3, h3, k3, ok3, no3⟩
      obtain ⟨W4, hW4⟩ : ∃ W4, W4 = w3.setCell ⟨p, 2, none⟩ (.int .i64 0) := ⟨_, rfl⟩
      have hr4 : RS L w.heap.size p (.slice A L.length c) l3 0 bad3 W4 := by rw [hW4]; exact h3.setParts 0
      have hk4 : Kept (· = p) wr W4 := by rw [hW4]; exact setp_kept k3 _
      have hty := srtyp_any L w.heap.size p (.slice A L.length c) 301 l3 0 bad3 W4 hr4 (by omega) (by omega)
      obtain ⟨f0, f1, f2, f3⟩ := h3.frozen
      obtain ⟨a3, -, -, y0, y1, y2, y3⟩ := h3.cells
      have HK4 := Lib.hid hk4
      obtain ⟨sv, hsv⟩ : ∃ sv, sv = sv := ⟨Value.bool false, rfl⟩
      clear hsv
      have HCA : Hid (Calls Tryd.prog 78 #[.pointer (some ⟨p, 0, none⟩)] W4 fun e w' => ∃ (T : Ty) (A' : Option Addr) (c' : Nat), e = .returned (.agg #[.int .i64 T.kind, .int .i64 T.num, .string T.name, .slice A' T.args.length c']) ∧
          Hid (∃ (l' : List UInt8) (q' : Nat) (bad' : Bool), TyAt (fun g => p + 1 ≤ g ∧ wr.heap.size ≤ g ∧ g < w'.heap.size) w' (tyV T.kind T.num T.name A' T.args.length c') T ∧ RS L w.heap.size p (.slice A L.length c) l' q' bad' w' ∧ Kept (· = p) wr w' ∧ (bad' = false → exsR (n - (k + 1)) (xs ++ [⟨s, T⟩]) l' = R) ∧ (bad' = true → R = none))) := Lib.hid (by
        have hpw := HT.out.lt
        obtain ⟨-, hex⟩ := HXK.out.1 (by simp)
        rw [show n - k = (n - (k + 1)) + 1 by omega, exsR] at hex
        refine hty.mono ?_
        rintro e w' ⟨T, A', c', l', q', bad', rfl, hT, hTl, hrs, hkk, okk, nok⟩
        refine ⟨T, A', c', rfl, Lib.hid ⟨l', q', bad', hT.sub fun g hg => ⟨by have := hk4.size; omega, by have := hk4.size; omega, hg.2⟩, hrs, hk4.trans' hkk, fun e => ?_, fun e => ?_⟩⟩
        · obtain ⟨e3, h5, -, -⟩ := okk e
          rw [(ok3 e3).2] at hex
          simp only [h5] at hex
          exact hex
        · rw [← hex]
          cases hb3 : bad3 with
          | true =>
            rcases no3 hb3 with h | h
            · cases h
            · rw [h]
          | false =>
            rw [(ok3 hb3).2]
            have : typR 301 0 l3 = none := (nok e).resolve_left (by rw [hb3]; simp)
            simp only [this])
      clear hty h3 k3 ok3 no3 hr4 hk4
      rw [hxl.symm] at HCA
      go_wp2_with fail
      rw [← hW4]
      clear hW4 f0 f1 f2 f3 y0 y1 y2 y3 r0 r1 r2 r3 HNM
      refine HCA.out.mono ?_
      rintro e w5 ⟨T, A', c', rfl, HQ⟩
      obtain ⟨l5, q5, bad5, hT, h5, k5, ok5, no5⟩ := HQ.out
      have hp5 := h5.lt
      have hr5 := RowK.above (R := ExAt) ExAt.keep (w' := w5) HRW.out (Lo := p + 1) (Nat.le_refl _) (Nat.le_refl _) (fun g h1 h2 => k5.block g h2 (by omega)) k5.size
      have hown := hr5.own
      obtain ⟨us', hus⟩ : ∃ us', us' = us.flatMap flatC := ⟨_, rfl⟩
      rw [← hus] at hown
      have HOWN := Lib.hid hown; have HR5 := Lib.hid hr5; have HT5 := Lib.hid hT; have H5 := Lib.hid h5; have K5 := Lib.hid k5; have OK5 := Lib.hid ok5; have NO5 := Lib.hid no5; have HUS := Lib.hid hus
      have hz5 := k5.size
      clear hr5 hT h5 k5 ok5 no5 HQ HCA hus
      go_wp2_with (at_builtin; refine wpList_appK _ rfl _ _ _ rfl (p + 1) 46 5 exE _ xs.length us' rfl (World.ownsRow.alloc hown _) ⟨w5.heap.size, 0, none⟩ 1 1 [.string s, .int .i64 T.kind, .int .i64 T.num, .string T.name, .slice A' T.args.length c'] rfl rfl (cells_new _ _ _) (one5 _ _ _ _ _ _ _) (by omega) (by simp; omega) ?_; intro v6 w6 hown6 hg6 hat6)
      go_roundw
      case rel =>
        have hlow : ∀ g, g ≤ p → w6.heap[g]? = w5.heap[g]? := fun g hg => (hg6.block g (by simp; omega) (fun e => by have := (HOWN.out.lt _ e.symm).1; omega)).trans (Below.heap_alloc _ _ _ (by omega))
        refine ⟨k + 1, q5, l5, bad5, xs ++ [⟨s, T⟩], us ++ [exV ⟨s, T⟩ A' c'], by omega, by go_num, Lib.hid (H5.out.keep hlow), Lib.hid ?_, by simp [hxl], Lib.hid ?_, Lib.hid ⟨fun e => ?_, fun e => ?_⟩⟩
        · refine RowK.next (R := ExAt) ExAt.keep HR5.out (u := exV ⟨s, T⟩ A' c') (x := ⟨s, T⟩) ⟨A', c', rfl, by show s.size ≤ 9223372036854775807; omega, HT5.out.sub fun g hg => hg⟩ (fun g hg => ⟨hg.1, hg.2.2, fun e => by have := (HRW.out.lt g e).2; omega⟩) rfl _ ?_ hg6 hat6
          rw [← HUS.out]; exact hown6
        · exact below_grow (p_below HB.out K5.out (by rw [HPP.out]; exact Nat.le_refl _)) (by have := HB.out.size; omega) _ hg6 (fun g e => by have := (HOWN.out.lt g e).1; rw [← HPP.out]; omega)
        · exact ⟨(HXK.out.1 (by simp)).1, by rw [← hxl]; exact OK5.out e⟩
        · exact .inr (NO5.out e)
      case measure => simp [RowKit.intOf]; omega
    · have hex : badk = true ∨ k = n := by
        cases badk with
        | true => exact .inl rfl
        | false => right; have : ¬ k < n := fun h => hgo ⟨h, rfl⟩; omega
      by_cases hbk : badk = true
      · subst hbk
        have HE : Hid (P (.returned (.tuple #[.slice none 0 0, .int .i64 140])) wr) := Lib.hid (by
          rw [HPO.out]
          refine none_post HB.out ?_
          rcases HXK.out.2 rfl with h | h
          · exact (HX2.out.2 h).1
          · cases hb : bad2 with
            | true => exact (HX2.out.2 hb).1
            | false => rw [HX2.out.1 hb, if_pos (by omega), h])
        clear hex hgo
        go_wp2
        all_goals exact HE.out
      · have hbf : badk = false := by simpa using hbk
        subst hbf
        have hkn : k = n := by simpa using hex
        subst hkn
        obtain ⟨e2, hex2⟩ := HXK.out.1 rfl
        rw [Nat.sub_self, exsR] at hex2
        have hdx := HX2.out.1 e2
        rw [if_pos (by omega), ← hex2] at hdx
        simp only at hdx
        have HDX := Lib.hid hdx
        have hex4 := (HRW.out.exs).sub (S' := (· < wr.heap.size)) fun g hg => hg.2
        have HRI := Lib.hid (right14_any xs _ wr hex4)
        have HEX := Lib.hid HRW.out.exs
        obtain ⟨Asv, csv, rfl, -, -⟩ := HRW.out.form
        rw [hxl] at HRI HEX
        clear hex2 hdx hex4 hex hgo hbk
        by_cases hl : lk = []
        · have hal : L.length = ak := hak.2 hl
          have g1 : ((ak : Int) != (L.length : Int)) = false := by simp; omega
          by_cases hri : rightX xs = true
          · have HE : ∀ W, Below wr.heap.size wr W → Hid (P (.returned (.tuple #[.slice Asv k csv, .int .i64 0])) W) := fun W hb => Lib.hid (by
              rw [HPO.out]
              have hd := HDX.out
              rw [if_pos ⟨hl, hri⟩] at hd
              refine ⟨HB.out.trans (hb.mono HB.out.size), .slice Asv k csv, by rw [hd]; rfl, fun ys e => ?_, fun e => by rw [hd] at e; cases e⟩
              rw [hd] at e
              injection e with e
              subst e
              refine HEX.out.keep fun g hg => ⟨⟨by have := HPP.out; omega, Nat.lt_of_lt_of_le hg.2 hb.size⟩, hb.block g hg.2⟩)
            rw [hri] at HRI
            clear hak hal hl hri
            go_wp2_with fail
            refine HRI.out.mono ?_
            rintro e w7 ⟨rfl, hb7⟩
            have HE7 := HE w7 hb7
            clear HE hb7
            go_wp2
            exact HE7.out
          · have hri' : rightX xs = false := by simpa using hri
            have HE : ∀ W, Below wr.heap.size wr W → Hid (P (.returned (.tuple #[.slice none 0 0, .int .i64 140])) W) := fun W hb => Lib.hid (by
              rw [HPO.out]
              refine none_post (HB.out.trans (hb.mono HB.out.size)) ?_
              rw [HDX.out, if_neg (fun h => hri h.2)])
            rw [hri'] at HRI
            clear hak hal hl hri hri'
            go_wp2_with fail
            refine HRI.out.mono ?_
            rintro e w7 ⟨rfl, hb7⟩
            have HE7 := HE w7 hb7
            clear HE hb7
            go_wp2
            exact HE7.out
        · have hal : ¬ (L.length = ak) := fun h => hl (hak.1 h)
          have g1 : ((ak : Int) != (L.length : Int)) = true := by simp; omega
          have HE : Hid (P (.returned (.tuple #[.slice none 0 0, .int .i64 140])) wr) := Lib.hid (by
            rw [HPO.out]
            refine none_post HB.out ?_
            rw [HDX.out, if_neg (fun h => hl h.1)])
          clear hak hal hl
          go_wp2
          all_goals exact HE.out
end Go.Proofs.YtbhicpjhijondaaDoor
