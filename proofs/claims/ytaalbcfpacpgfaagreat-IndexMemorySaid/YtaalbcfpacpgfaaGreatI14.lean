/- law20.great. -/
import Derived.Test.YtaalbcfpacpgfaaGreatI13
namespace Go.Ix
open Go.RowKit Go.Lib Go.Vfs Go.Par Go.Typ
/-- how heavy entries are. -/
def wtX (x : Ex) : Int := 1 + (x.name.size : Int) / 16 + weightT x.ty 1000
def wtXs : List Ex → Int
  | [] => 0
  | x :: xs => wtX x + wtXs xs
def wtE (e : En) : Int := 1 + (e.uri.size : Int) / 16 + wtXs e.exs
def wtEs : List En → Int
  | [] => 0
  | e :: es => wtE e + wtEs es
theorem wtXs_snoc (x : Ex) : ∀ xs : List Ex, wtXs (xs ++ [x]) = wtXs xs + wtX x
  | [] => by simp [wtXs]
  | y :: xs => by simp only [List.cons_append, wtXs, wtXs_snoc x xs]; omega
theorem wtEs_snoc (e : En) : ∀ es : List En, wtEs (es ++ [e]) = wtEs es + wtE e
  | [] => by simp [wtEs]
  | y :: es => by simp only [List.cons_append, wtEs, wtEs_snoc e es]; omega
theorem wtXs_take {xs : List Ex} {j : Nat} (h : j < xs.length) : wtXs (xs.take (j + 1)) = wtXs (xs.take j) + wtX xs[j] := by rw [List.take_succ_eq_append_getElem h, wtXs_snoc]
theorem wtEs_take {es : List En} {k : Nat} (h : k < es.length) : wtEs (es.take (k + 1)) = wtEs (es.take k) + wtE es[k] := by rw [List.take_succ_eq_append_getElem h, wtEs_snoc]
end Go.Ix
namespace Go.Proofs.YtaalbcfpacpgfaaGreat
open Go.RowKit Go.Lib Go.Vfs Go.Par Go.Typ Go.Shelf Go.Ix
set_option linter.unusedVariables false
set_option linter.unusedSimpArgs false
theorem wrapR (x : Int) : -9223372036854775808 ≤ RowKit.wrap64 x ∧ RowKit.wrap64 x ≤ 9223372036854775807 := by
  unfold RowKit.wrap64; omega
theorem wrap64I (x : Int) (h0 : -9223372036854775808 ≤ x) (h1 : x ≤ 9223372036854775807) : RowKit.wrap64 x = x := by
  unfold RowKit.wrap64; omega

set_option maxRecDepth 20000 in
set_option maxHeartbeats 4000000 in
theorem great20_any (es : List En) (hu : ∀ e ∈ es, e.uri.size ≤ 140737488355328) (v : Value) (w : World) (hX : EntsAt (· < w.heap.size) w v es) :
    Calls Tryz.prog 19 #[v] w fun e w' => ∃ q, e = .returned (.bool q) ∧ (es.length ≤ 1000 → q = false → wtEs es ≤ 3000) ∧ Below w.heap.size w w' := by
  obtain ⟨A, c, rfl, hc, hm⟩ := hX.form
  have HX := Lib.hid hX
  have hla : es.length ≤ 9223372036854775807 := by simp only [maxLen] at hm; omega
  have HU := Lib.hid hu
  clear hX hc hm hu
  go_enter Tryz.func19, Tryz.ntmps19
  go_wp2
  go_loopw [3, 4] (fun nv iv W => ∃ (k : Nat) (n : Int), k ≤ es.length ∧ nv = .int .i64 n ∧ iv = .int .i64 k ∧ (-9223372036854775808 ≤ n ∧ n ≤ 9223372036854775807) ∧ Hid (es.length ≤ 1000 → 0 ≤ n ∧ n ≤ 2305843009213693952 + (k : Int) * 17592186044416 ∧ (n ≤ 3000 → n = wtEs (es.take k))) ∧ Hid (Below w.heap.size w W)) (fun _ iv _ => es.length - (RowKit.intOf iv).toNat)
  case atStart => exact ⟨0, 0, by omega, rfl, rfl, ⟨by omega, by omega⟩, Lib.hid (fun _ => ⟨by omega, by omega, fun _ => rfl⟩), Lib.hid (Below.refl _ _)⟩
  case round =>
    obtain ⟨k, n, hk, rfl, rfl, hn, HW, HB⟩ := hrel
    by_cases hlt : k < es.length
    · obtain ⟨b, off, A', c', rfl, hb, hns, hex, x0, x1, x2⟩ := (HX.out.blw HB.out).arg hlt
      obtain ⟨xs, hxs⟩ : ∃ xs, xs = es[k].exs := ⟨_, rfl⟩
      obtain ⟨u, hu⟩ : ∃ u, u = es[k].uri := ⟨_, rfl⟩
      have hul : u.size ≤ 140737488355328 := by rw [hu]; exact HU.out es[k] (List.getElem_mem hlt)
      have HWT : Hid (wtEs (es.take (k + 1)) = wtEs (es.take k) + (1 + (u.size : Int) / 16 + wtXs xs)) := Lib.hid (by rw [wtEs_take hlt, hu, hxs]; rfl)
      rw [← hxs] at hex x2
      rw [← hu] at x0
      obtain ⟨q, hq⟩ : ∃ q : Int, q = (u.size : Int) / 16 := ⟨_, rfl⟩
      have hqb : 0 ≤ q ∧ q ≤ 8796093022208 := by omega
      have hquo : (u.size : Int).tdiv 16 = q := by rw [hq, Int.tdiv_eq_ediv_of_nonneg (by omega)]
      rw [← hq] at HWT
      have hw1 : IntKind.i64.wrap q = q := wrapI _ (by omega) (by omega)
      have hw2 : IntKind.i64.wrap (1 + q) = 1 + q := wrapI _ (by omega) (by omega)
      obtain ⟨n1, hn1⟩ : ∃ n1, n1 = RowKit.wrap64 (n + (1 + q)) := ⟨_, rfl⟩
      have hr1 := wrapR (n + (1 + q))
      rw [← hn1] at hr1
      have HW1 : Hid (es.length ≤ 1000 → 0 ≤ n1 ∧ n1 ≤ 2305843009213693952 + ((k : Int) + 1) * 17592186044416 ∧ (n1 ≤ 3000 → n1 = wtEs (es.take k) + (1 + q + wtXs (xs.take 0)))) := Lib.hid fun hl => by
        obtain ⟨h1, h2, h3⟩ := HW.out hl
        have e : n1 = n + (1 + q) := by rw [hn1]; exact wrap64I _ (by omega) (by omega)
        refine ⟨by omega, by omega, fun h4 => ?_⟩
        rw [e, h3 (by omega)]
        simp [wtXs]
      have HXE := Lib.hid hex
      have HHQ := Lib.hid hq
      have hxl : xs.length ≤ 9223372036854775807 := by
        obtain ⟨_, _, e, h1, h2⟩ := hex.form
        simp only [maxLen] at h2; omega
      have HX2 := Lib.hid x2
      obtain ⟨W1, hW1⟩ : ∃ W1, W1 = wr := ⟨_, rfl⟩
      subst hW1
      clear hq hex hns hxs hu HW x1
      go_wp2_with fail
      try rw [← hn1]
      clear hn1 hw1 hw2 hquo x0
      go_loopw [3, 5] (fun nv jv W => ∃ (j : Nat) (m : Int), j ≤ xs.length ∧ nv = .int .i64 m ∧ jv = .int .i64 j ∧ (-9223372036854775808 ≤ m ∧ m ≤ 9223372036854775807) ∧ Hid (es.length ≤ 1000 → 0 ≤ m ∧ m ≤ 2305843009213693952 + ((k : Int) + 1) * 17592186044416 ∧ (m ≤ 3000 → m = wtEs (es.take k) + (1 + q + wtXs (xs.take j)))) ∧ Hid (Below W1.heap.size W1 W)) (fun _ jv _ => xs.length - (RowKit.intOf jv).toNat)
      case atStart => exact ⟨0, n1, by omega, rfl, rfl, hr1, HW1, Lib.hid (Below.refl _ _)⟩
      case round =>
        obtain ⟨j, m, hj, rfl, rfl, hmr, HWM, HBM⟩ := hrel
        have hzM := HBM.out.size
        have x2 := (HBM.out.cell (p := ⟨b, off + k * 3 + 2, none⟩) hb).trans HX2.out
        by_cases hjl : j < xs.length
        rotate_left
        · have hjl2 : j = xs.length := by omega
          have HW2 : Hid (es.length ≤ 1000 → 0 ≤ m ∧ m ≤ 2305843009213693952 + ((k : Int) + 1) * 17592186044416 ∧ (m ≤ 3000 → m = wtEs (es.take (k + 1)))) := Lib.hid fun hl => by
            obtain ⟨h1, h2, h3⟩ := HWM.out hl
            refine ⟨h1, h2, fun h4 => ?_⟩
            rw [h3 h4, HWT.out, hjl2, List.take_length]
          have hnl : ¬ (j : Int) < (xs.length : Int) := by omega
          go_wp2
          go_roundw
          case rel => exact ⟨k + 1, m, by omega, rfl, by go_num, hmr, Lib.hid (fun hl => by have := HW2.out hl; simp only [Int.natCast_add]; exact this), Lib.hid (HB.out.trans (HBM.out.mono HB.out.size))⟩
          case measure => simp [RowKit.intOf]; omega
        have hjl' : (j : Int) < (xs.length : Int) := by omega
        by_cases hm3 : m ≤ 3000
        rotate_left
        · have HW2 : Hid (es.length ≤ 1000 → 0 ≤ m ∧ m ≤ 2305843009213693952 + ((k : Int) + 1) * 17592186044416 ∧ (m ≤ 3000 → m = wtEs (es.take (k + 1)))) := Lib.hid fun hl => by
            obtain ⟨h1, h2, h3⟩ := HWM.out hl
            exact ⟨h1, h2, fun h4 => absurd h4 hm3⟩
          go_wp2
          go_roundw
          case rel => exact ⟨k + 1, m, by omega, rfl, by go_num, hmr, Lib.hid (fun hl => by have := HW2.out hl; simp only [Int.natCast_add]; exact this), Lib.hid (HB.out.trans (HBM.out.mono HB.out.size))⟩
          case measure => simp [RowKit.intOf]; omega
        obtain ⟨bx, ox, A2, c2, rfl, hbx, hns, ht, z0, z1, z2, z3, z4⟩ := (HXE.out.blw HBM.out).arg hjl
        have hd : Below wr.heap.size wr wr.drew := (Below.refl wr.heap.size _).drew
        have hca := weight_any xs[j].ty _ 1000 wr.drew (ht.blw hd) (by decide) (by decide)
        have hbd := weightT_bound ht.fit 1000 (by decide)
        have HWX : Hid (wtXs (xs.take (j + 1)) = wtXs (xs.take j) + (1 + (xs[j].name.size : Int) / 16 + weightT xs[j].ty 1000)) := Lib.hid (wtXs_take hjl)
        have HD := Lib.hid hd
        clear ht hd
        generalize xs[j] = X at *
        obtain ⟨y, hy⟩ : ∃ y : Int, y = (X.name.size : Int) / 16 := ⟨_, rfl⟩
        obtain ⟨z, hz⟩ : ∃ z : Int, z = weightT X.ty 1000 := ⟨_, rfl⟩
        rw [← hz] at hca hbd HWX
        rw [← hy] at HWX
        have hyb : 0 ≤ y ∧ y ≤ 576460752303423488 := by omega
        have hquo : (X.name.size : Int).tdiv 16 = y := by rw [hy, Int.tdiv_eq_ediv_of_nonneg (by omega)]
        unfold tyV at hca
        have HCA := Lib.hid hca
        have HSK : Hid (∀ W' : World, Below wr.heap.size wr W' → W'.cell? ⟨b, off + k * 3 + 2, none⟩ = some (.slice (some ⟨bx, ox, none⟩) xs.length c') ∧ W'.cell? ⟨bx, ox + j * 5, none⟩ = some (.string X.name) ∧ W'.cell? ⟨bx, ox + j * 5 + 1, none⟩ = some (.int .i64 X.ty.kind) ∧ W'.cell? ⟨bx, ox + j * 5 + 2, none⟩ = some (.int .i64 X.ty.num) ∧ W'.cell? ⟨bx, ox + j * 5 + 3, none⟩ = some (.string X.ty.name) ∧ W'.cell? ⟨bx, ox + j * 5 + 4, none⟩ = some (.slice A2 X.ty.args.length c2)) :=
          Lib.hid fun W' h => ⟨(h.cell (p := ⟨_, _, none⟩) (by show b < wr.heap.size; omega)).trans x2, (h.cell (p := ⟨_, _, none⟩) hbx).trans z0, (h.cell (p := ⟨_, _, none⟩) hbx).trans z1, (h.cell (p := ⟨_, _, none⟩) hbx).trans z2, (h.cell (p := ⟨_, _, none⟩) hbx).trans z3, (h.cell (p := ⟨_, _, none⟩) hbx).trans z4⟩
        have hwa : RowKit.wrap64 (1 + y) = 1 + y := wrap64I _ (by omega) (by omega)
        have hwb : RowKit.wrap64 (1 + y + z) = 1 + y + z := wrap64I _ (by omega) (by omega)
        obtain ⟨m2, hm2⟩ : ∃ m2, m2 = RowKit.wrap64 (m + (1 + y + z)) := ⟨_, rfl⟩
        have hr2 := wrapR (m + (1 + y + z))
        rw [← hm2] at hr2
        have HWN : Hid (es.length ≤ 1000 → 0 ≤ m2 ∧ m2 ≤ 2305843009213693952 + ((k : Int) + 1) * 17592186044416 ∧ (m2 ≤ 3000 → m2 = wtEs (es.take k) + (1 + q + wtXs (xs.take (j + 1))))) := Lib.hid fun hl => by
          obtain ⟨h1, h2, h3⟩ := HWM.out hl
          have e : m2 = m + (1 + y + z) := by rw [hm2]; exact wrap64I _ (by omega) (by omega)
          refine ⟨by omega, by omega, fun h4 => ?_⟩
          rw [e, h3 hm3, HWX.out]; omega
        have HEQ : Hid (IntKind.i64.wrap (m + IntKind.i64.wrap (IntKind.i64.wrap (1 + IntKind.i64.wrap y) + z)) = m2) := Lib.hid (by
          rw [wrapI y (by omega) (by omega), wrapI (1 + y) (by omega) (by omega), wrapI (1 + y + z) (by omega) (by omega), hm2, IntKind.wrap_i64]
          unfold RowKit.wrap64
          rfl)
        have hg0 : (-9223372036854775808 : Int) ≤ 1 + y ∧ 1 + y ≤ 9223372036854775807 := by omega
        clear hca hz hy hns z0 z1 z2 z3 z4 HX2
        go_wp2_with fail
        go_region_held (fun W' => W'.cell? ⟨b, off + k * 3 + 2, none⟩ = some (.slice (some ⟨bx, ox, none⟩) xs.length c') ∧ W'.cell? ⟨bx, ox + j * 5, none⟩ = some (.string X.name) ∧ W'.cell? ⟨bx, ox + j * 5 + 1, none⟩ = some (.int .i64 X.ty.kind) ∧ W'.cell? ⟨bx, ox + j * 5 + 2, none⟩ = some (.int .i64 X.ty.num) ∧ W'.cell? ⟨bx, ox + j * 5 + 3, none⟩ = some (.string X.ty.name) ∧ W'.cell? ⟨bx, ox + j * 5 + 4, none⟩ = some (.slice A2 X.ty.args.length c2))
          (first | exact HSK.out _ HD.out | exact HSK.out _ (by assumption)) ((go_at_call 62; refine HCA.out.mono ?_; rintro e w2 ⟨rfl, hb2⟩; have HB2 := HD.out.trans (hb2.mono HD.out.size)))
        have HB3 : Hid (Below W1.heap.size W1 w2) := Lib.hid (HBM.out.trans (HB2.mono HBM.out.size))
        try rw [← hm2]
        clear hm2 hwa hwb hquo
        go_wp2
        go_roundw
        case rel => exact ⟨j + 1, m2, by omega, by rw [HEQ.out], by go_num, hr2, HWN, HB3⟩
        case measure => simp [RowKit.intOf]; omega
    · have hkl : k = es.length := by omega
      obtain ⟨q, hq⟩ : ∃ q, q = decide (3000 < n) := ⟨_, rfl⟩
      have HQ : Hid (es.length ≤ 1000 → q = false → wtEs es ≤ 3000) := Lib.hid fun hl h => by
        obtain ⟨h1, h2, h3⟩ := HW.out hl
        have h4 : n ≤ 3000 := by rw [hq] at h; have := of_decide_eq_false h; omega
        have h5 := h3 h4
        rw [hkl, List.take_length] at h5
        omega
      go_wp2
      go_ret
      exact ⟨_, rfl, by rw [← hq]; exact HQ.out, HB.out⟩
end Go.Proofs.YtaalbcfpacpgfaaGreat
