/- types.Instance. -/
import Derived.Test.YtbhicpjhijondaaDoorT33
namespace Go.Typ
/-- is T an instance of G? -/
noncomputable def instT (G T : Ty) : Bool := rightT G && (rightT T && (standsT G T []).1)
end Go.Typ
namespace Go.Proofs.YtbhicpjhijondaaDoor
open Go.RowKit Go.Lib Go.Vfs Go.Par Go.Typ Go.Shelf
set_option linter.unusedVariables false
set_option linter.unusedSimpArgs false

set_option maxRecDepth 20000 in
set_option maxHeartbeats 2000000 in
theorem instance_any (S : Nat → Prop) (Q : Int → Ty → Prop) (G T : Ty) (v u : Value) (w : World) (hS : ∀ g, S g → g < w.heap.size)
    (HS : ∀ n U U' v v' W, Below w.heap.size w W → w.heap.size ≤ W.heap.size → Q n U → Q n U' → TyAt S W v U → TyAt S W v' U' → Calls Tryd.prog 20 #[v, v'] W fun e W' => e = .returned (.bool (same U U')) ∧ Below W.heap.size W W')
    (hG : TyAt (· < w.heap.size) w v G) (hT : TyAt S w u T) (hQ : rightT G = true → rightT T = true → meetsT Q G T) :
    Calls Tryd.prog 18 #[v, u] w fun e w' => e = .returned (.bool (instT G T)) ∧ Below w.heap.size w w' := by
  obtain ⟨A, c, rfl, hc, hm, hn⟩ := hG.form
  obtain ⟨A', c', rfl, hc', hm', hn'⟩ := hT.form
  obtain ⟨W1, hW1⟩ : ∃ W1, W1 = (w.alloc (.cells #[.int .i64 G.kind, .int .i64 G.num, .string G.name, .slice A G.args.length c] 24)).alloc (.cells #[.int .i64 T.kind, .int .i64 T.num, .string T.name, .slice A' T.args.length c'] 24) := ⟨_, rfl⟩
  have hb1 : Below w.heap.size w W1 := by rw [hW1]; exact ((Below.refl _ _).alloc (Nat.le_refl _) _).alloc (by simp) _
  have hz1 : W1.heap.size = w.heap.size + 2 := by rw [hW1]; simp
  have hbg : W1.heap[w.heap.size]? = some (.cells #[.int .i64 G.kind, .int .i64 G.num, .string G.name, .slice A G.args.length c] 24 (0, 0)) := by
    rw [hW1, Below.heap_alloc _ _ _ (by simp)]
    exact heap_alloc_new _ _
  have hbt : W1.heap[w.heap.size + 1]? = some (.cells #[.int .i64 T.kind, .int .i64 T.num, .string T.name, .slice A' T.args.length c'] 24 (0, 0)) := by
    rw [hW1]
    have := heap_alloc_new (w.alloc (.cells #[.int .i64 G.kind, .int .i64 G.num, .string G.name, .slice A G.args.length c] 24)) (.cells #[.int .i64 T.kind, .int .i64 T.num, .string T.name, .slice A' T.args.length c'] 24)
    simpa using this
  obtain ⟨y0, y1, y2, y3⟩ := box4 hbg
  obtain ⟨z0, z1, z2, z3⟩ := box4 hbt
  have hmm := @run_makeMap Tryd.prog
  have hGW : ∀ W, Below w.heap.size w W → TyAt (· < w.heap.size) W (tyV G.kind G.num G.name A G.args.length c) G := fun W h => hG.keep fun g hg => ⟨hg, h.block g hg⟩
  have hTW : ∀ W, Below w.heap.size w W → TyAt S W (tyV T.kind T.num T.name A' T.args.length c') T := fun W h => hT.keep fun g hg => ⟨hg, h.block g (hS g hg)⟩
  have hRG : ∀ W, Below w.heap.size w W → w.heap.size ≤ W.heap.size → _ := fun W h hz => right_any G _ W ((hGW W h).sub (S' := (· < W.heap.size)) fun g (hg : g < w.heap.size) => by omega)
  have hRT : ∀ W, Below w.heap.size w W → w.heap.size ≤ W.heap.size → _ := fun W h hz => right_any T _ W ((hTW W h).sub (S' := (· < W.heap.size)) fun g hg => by have := hS g hg; omega)
  have hST : rightT G = true → rightT T = true → ∀ W, Below w.heap.size w W → w.heap.size ≤ W.heap.size → _ := fun h1 h2 W h hz =>
    stands_any w.heap.size W.heap.size w S Q hS hz HS G T [] _ _ (W.alloc (.map #[] 0)) (h.trans (((Below.refl _ _).alloc (Nat.le_refl _) _).mono hz)) ((hGW W h).keep fun g hg => ⟨hg, Below.heap_alloc _ _ _ (by omega)⟩) ((hTW W h).keep fun g hg => ⟨hg, Below.heap_alloc _ _ _ (by have := hS g hg; omega)⟩) ⟨[], MapI.new W, .nil⟩ (hQ h1 h2)
  have HRG := Lib.hid hRG; have HRT := Lib.hid hRT; have HST := Lib.hid hST; have HB1 := Lib.hid hb1; have HBG := Lib.hid hbg; have HBT := Lib.hid hbt; have HZ1 := Lib.hid hz1
  rw [hW1] at y0 y1 y2 y3 z0 z1 z2 z3
  clear hGW hTW hRG hRT hST hc hm hn hc' hm' hn' hb1 hbg hbt hG hT hQ HS hS hz1
  unfold tyV at HRG HRT HST ⊢
  go_enter Tryd.func18, Tryd.ntmps18
  go_wp2_with fail
  rw [← hW1]
  clear hW1 y0 y1 y2 y3 z0 z1 z2 z3
  refine (HRG.out W1 HB1.out (by have := HZ1.out; omega)).mono ?_
  rintro e w2 ⟨rfl, hb2⟩
  have HB2 := Lib.hid (HB1.out.trans (hb2.mono (by have := HZ1.out; omega)))
  have hz2 := hb2.size
  have HZ2 : Hid (w.heap.size + 2 ≤ w2.heap.size) := Lib.hid (by have := HZ1.out; omega)
  have HBT2 := Lib.hid ((hb2.block _ (lt_blk HBT.out)).trans HBT.out)
  have HBG2 := Lib.hid ((hb2.block _ (lt_blk HBG.out)).trans HBG.out)
  obtain ⟨y0, y1, y2, y3⟩ := box4 HBG2.out
  obtain ⟨z0, z1, z2, z3⟩ := box4 HBT2.out
  clear hb2 hz2
  cases hq1 : rightT G with
  | false =>
    have HR : Hid (instT G T = false) := Lib.hid (by unfold instT; rw [hq1]; rfl)
    clear hq1
    go_wp2
    go_ret
    rw [HR.out]
    exact ⟨rfl, HB2.out⟩
  | true =>
    have HQ1 := Lib.hid hq1
    clear hq1
    go_wp2_with fail
    clear y0 y1 y2 y3 z0 z1 z2 z3
    refine (HRT.out w2 HB2.out (by have := HZ2.out; omega)).mono ?_
    rintro e w3 ⟨rfl, hb3⟩
    have HB3 := Lib.hid (HB2.out.trans (hb3.mono (by have := HZ2.out; omega)))
    have hz3 := hb3.size
    have HZ3 : Hid (w.heap.size + 2 ≤ w3.heap.size) := Lib.hid (by have := HZ2.out; omega)
    obtain ⟨y0, y1, y2, y3⟩ := box4 ((hb3.block _ (lt_blk HBG2.out)).trans HBG2.out)
    obtain ⟨z0, z1, z2, z3⟩ := box4 ((hb3.block _ (lt_blk HBT2.out)).trans HBT2.out)
    clear hb3 hz3
    cases hq2 : rightT T with
    | false =>
      have HR : Hid (instT G T = false) := Lib.hid (by unfold instT; rw [hq2, Bool.false_and, Bool.and_false])
      clear hq2
      go_wp2
      go_ret
      rw [HR.out]
      exact ⟨rfl, HB3.out⟩
    | true =>
      have HR : Hid (instT G T = (standsT G T []).1) := Lib.hid (by unfold instT; rw [hq2, HQ1.out]; rfl)
      have HS3 := Lib.hid (HST.out HQ1.out hq2 w3 HB3.out (by have := HZ3.out; omega))
      clear hq2
      go_wp2_with fail
      refine HS3.out.mono ?_
      rintro e w4 ⟨rfl, hk4, -⟩
      have hb4 : Below w.heap.size w w4 := (HB3.out.trans ((((Below.refl w3.heap.size w3).alloc (Nat.le_refl _) _).mono (by have := HZ3.out; omega)))).trans (below_of_kept hk4 (by have := HZ3.out; omega) (by have := HZ3.out; simp; omega))
      have HB4 := Lib.hid hb4
      clear hk4 hb4
      go_wp2
      go_ret
      rw [HR.out]
      exact ⟨rfl, HB4.out⟩
end Go.Proofs.YtbhicpjhijondaaDoor
