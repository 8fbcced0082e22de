/- A type is an instance of itself, of any variable, and of what it fills: plain, and types.Instance of a variable. -/
import Derived.Test.YtbhicpjhijondaaDoorT43
namespace Go.Typ
open Go.RowKit Go.Lib Go.Vfs Go.Par
/-- what is known is what the variables become. -/
def KnS (σ : Int → Ty) (kn : List (Int × Ty)) : Prop := ∀ n U, kn.lookup n = some U → U = σ n
theorem KnS.nil (σ : Int → Ty) : KnS σ [] := fun n U h => by cases h
theorem KnS.snoc {σ : Int → Ty} {kn : List (Int × Ty)} (h : KnS σ kn) {n : Int} {U : Ty} (hU : U = σ n) : KnS σ (kn ++ [(n, U)]) := by
  intro m V hl
  rw [List.lookup_append] at hl
  cases hk : kn.lookup m with
  | some X => rw [hk] at hl; simp at hl; subst hl; exact h m X hk
  | none =>
    rw [hk] at hl
    simp only [Option.none_or] at hl
    by_cases e : m = n
    · subst e; simp at hl; subst hl; exact hU
    · have hb : (m == n) = false := by simpa using e
      simp only [List.lookup_cons, hb] at hl
      cases hl
theorem stands_sub (σ : Int → Ty) (F : Ty → Ty) (G : Ty) : (∀ x ∈ G.list, x.kind = 1 → F x = σ x.num) → (∀ x ∈ G.list, ¬ x.kind = 1 → F x = .mk x.kind x.num x.name (x.args.map F)) →
    ∀ kn, KnS σ kn → (standsT G (F G) kn).1 = true ∧ KnS σ (standsT G (F G) kn).2 := by
  induction G using Ty.ind with
  | h G ih =>
    intro h1 h2 kn hk
    have hself : G ∈ G.list := by rw [G.list_eq]; exact List.mem_cons_self
    by_cases k1 : G.kind = 1
    · have hF := h1 G hself k1
      rw [standsT_eq, if_pos k1]
      cases hl : kn.lookup G.num with
      | none => exact ⟨rfl, hk.snoc hF⟩
      | some U =>
        have := hk _ _ hl
        exact ⟨same_true (this.trans hF.symm), hk⟩
    · have hF := h2 G hself k1
      rw [standsT_eq, if_neg k1, hF]
      rw [if_pos ⟨rfl, rfl, by show G.args.length = (G.args.map F).length; rw [List.length_map]⟩]
      show (standsL G.args (G.args.map F) kn).1 = true ∧ _
      have key : ∀ (gs : List Ty), (∀ g ∈ gs, ∀ kn, KnS σ kn → (standsT g (F g) kn).1 = true ∧ KnS σ (standsT g (F g) kn).2) → ∀ kn, KnS σ kn → (standsL gs (gs.map F) kn).1 = true ∧ KnS σ (standsL gs (gs.map F) kn).2 := by
        intro gs
        induction gs with
        | nil => intro _ kn hk; exact ⟨by rw [List.map_nil, standsL], by rw [List.map_nil, standsL]; exact hk⟩
        | cons g gs ih2 =>
          intro h kn hk
          obtain ⟨g1, g2⟩ := h g (by simp) kn hk
          rw [List.map_cons, standsL, if_pos g1]
          exact ih2 (fun x hx => h x (by simp [hx])) _ g2
      refine key _ (fun g hg => ?_) kn hk
      obtain ⟨i, hi, rfl⟩ := List.getElem_of_mem hg
      exact ih i hi (fun x hx => h1 x (by rw [G.list_eq]; exact List.mem_cons_of_mem _ (mem_listL hg hx))) (fun x hx => h2 x (by rw [G.list_eq]; exact List.mem_cons_of_mem _ (mem_listL hg hx)))
end Go.Typ
namespace Go.Proofs.YtbhicpjhijondaaDoor
open Go.RowKit Go.Lib Go.Vfs Go.Par Go.Typ
set_option linter.unusedVariables false
set_option linter.unusedSimpArgs false

theorem fit_var {x : Ty} (h : fitsT x = true) (hk : x.kind = 1) : x = .mk 1 x.num ⟨#[]⟩ [] := by
  obtain ⟨k, n, s, ts⟩ := x
  rcases fits_kinds h with ⟨h1, _, _, h2, h3⟩ | ⟨h, _⟩ | ⟨h, _⟩ | ⟨h, _⟩
  · have h1 : k = 1 := h1
    have h2 : s = ⟨#[]⟩ := by
      apply ByteArray.ext
      apply Array.toList_inj.mp
      rw [← ByteArray.toList_eq]
      exact h2
    have h3 : ts = [] := List.eq_nil_of_length_eq_zero h3
    rw [h1, h2, h3]; rfl
  all_goals (rw [hk] at h; cases h)
theorem inst_self {T : Ty} (h : rightT T = true) : instT T T = true := by
  have hF := (rightT_iff.1 h).2
  unfold instT
  rw [h, Bool.true_and, Bool.true_and]
  refine (stands_sub (fun n => .mk 1 n ⟨#[]⟩ []) id T (fun x hx hk => fit_var (hF x hx) hk) (fun x hx hk => ?_) [] (KnS.nil _)).1
  rw [List.map_id]
  exact x.eta
theorem inst_fill {T : Ty} (ws : List Ty) (h : rightT T = true) : instT T (fillT ws T) = rightT (fillT ws T) := by
  have hF := (rightT_iff.1 h).2
  unfold instT
  rw [h, Bool.true_and]
  cases hr : rightT (fillT ws T) with
  | false => rfl
  | true =>
    rw [Bool.true_and]
    refine (stands_sub (fillV ws) (fillT ws) T (fun x hx hk => ?_) (fun x hx hk => fillT_other ws hk) [] (KnS.nil _)).1
    obtain ⟨n, hn⟩ : ∃ n, n = x.num := ⟨_, rfl⟩
    rw [fit_var (hF x hx) hk, ← hn]
    show fillT ws (.mk 1 n ⟨#[]⟩ []) = fillV ws n
    rw [fillT, if_pos rfl]
    rfl
def var0 : Ty := .mk 1 0 ⟨#[]⟩ []
theorem right_var0 : rightT var0 = true := by kernel_rfl
theorem inst_var0 {T : Ty} (h : rightT T = true) : instT var0 T = true := by
  unfold instT
  rw [right_var0, h, Bool.true_and, Bool.true_and]
  rfl

set_option maxRecDepth 20000 in
set_option maxHeartbeats 2000000 in
theorem instance_by (S : Nat → Prop) (G T : Ty) (v u : Value) (w : World) (hS : ∀ g, S g → g < w.heap.size) (hG : TyAt (· < w.heap.size) w v G) (hT : TyAt S w u T)
    (hST0 : rightT G = true → rightT T = true → ∀ W, Below w.heap.size w W → w.heap.size ≤ W.heap.size → Calls Tryd.prog 53 #[v, u, .map (some W.heap.size)] (W.alloc (.map #[] 0)) fun e w' =>
      e = .returned (.bool (standsT G T []).1) ∧ Kept (· = W.heap.size) (W.alloc (.map #[] 0)) w' ∧ True) :
    Calls Tryd.prog 18 #[v, u] w fun e w' => e = .returned (.bool (instT G T)) ∧ Below w.heap.size w w' := by
  obtain ⟨A, c, rfl, hc, hm, hn⟩ := hG.form
  obtain ⟨A', c', rfl, hc', hm', hn'⟩ := hT.form
  obtain ⟨W1, hW1⟩ : ∃ W1, W1 = (w.alloc (.cells #[.int .i64 G.kind, .int .i64 G.num, .string G.name, .slice A G.args.length c] 24)).alloc (.cells #[.int .i64 T.kind, .int .i64 T.num, .string T.name, .slice A' T.args.length c'] 24) := ⟨_, rfl⟩
  have hb1 : Below w.heap.size w W1 := by rw [hW1]; exact ((Below.refl _ _).alloc (Nat.le_refl _) _).alloc (by simp) _
  have hz1 : W1.heap.size = w.heap.size + 2 := by rw [hW1]; simp
  have hbg : W1.heap[w.heap.size]? = some (.cells #[.int .i64 G.kind, .int .i64 G.num, .string G.name, .slice A G.args.length c] 24 (0, 0)) := by
    rw [hW1, Below.heap_alloc _ _ _ (by simp)]
    exact heap_alloc_new _ _
  have hbt : W1.heap[w.heap.size + 1]? = some (.cells #[.int .i64 T.kind, .int .i64 T.num, .string T.name, .slice A' T.args.length c'] 24 (0, 0)) := by
    rw [hW1]
    have := heap_alloc_new (w.alloc (.cells #[.int .i64 G.kind, .int .i64 G.num, .string G.name, .slice A G.args.length c] 24)) (.cells #[.int .i64 T.kind, .int .i64 T.num, .string T.name, .slice A' T.args.length c'] 24)
    simpa using this
  obtain ⟨y0, y1, y2, y3⟩ := box4 hbg
  obtain ⟨z0, z1, z2, z3⟩ := box4 hbt
  have hmm := @run_makeMap Tryd.prog
  have hGW : ∀ W, Below w.heap.size w W → TyAt (· < w.heap.size) W (tyV G.kind G.num G.name A G.args.length c) G := fun W h => hG.keep fun g hg => ⟨hg, h.block g hg⟩
  have hTW : ∀ W, Below w.heap.size w W → TyAt S W (tyV T.kind T.num T.name A' T.args.length c') T := fun W h => hT.keep fun g hg => ⟨hg, h.block g (hS g hg)⟩
  have hRG : ∀ W, Below w.heap.size w W → w.heap.size ≤ W.heap.size → _ := fun W h hz => right_any G _ W ((hGW W h).sub (S' := (· < W.heap.size)) fun g (hg : g < w.heap.size) => by omega)
  have hRT : ∀ W, Below w.heap.size w W → w.heap.size ≤ W.heap.size → _ := fun W h hz => right_any T _ W ((hTW W h).sub (S' := (· < W.heap.size)) fun g hg => by have := hS g hg; omega)
  have hST := hST0
  have HRG := Lib.hid hRG; have HRT := Lib.hid hRT; have HST := Lib.hid hST; have HB1 := Lib.hid hb1; have HBG := Lib.hid hbg; have HBT := Lib.hid hbt; have HZ1 := Lib.hid hz1
  rw [hW1] at y0 y1 y2 y3 z0 z1 z2 z3
  clear hGW hTW hRG hRT hST hc hm hn hc' hm' hn' hb1 hbg hbt hG hT hS hz1 hST0
  unfold tyV at HRG HRT HST ⊢
  go_enter Tryd.func18, Tryd.ntmps18
  go_wp2_with fail
  rw [← hW1]
  clear hW1 y0 y1 y2 y3 z0 z1 z2 z3
  refine (HRG.out W1 HB1.out (by have := HZ1.out; omega)).mono ?_
  rintro e w2 ⟨rfl, hb2⟩
  have HB2 := Lib.hid (HB1.out.trans (hb2.mono (by have := HZ1.out; omega)))
  have hz2 := hb2.size
  have HZ2 : Hid (w.heap.size + 2 ≤ w2.heap.size) := Lib.hid (by have := HZ1.out; omega)
  have HBT2 := Lib.hid ((hb2.block _ (lt_blk HBT.out)).trans HBT.out)
  have HBG2 := Lib.hid ((hb2.block _ (lt_blk HBG.out)).trans HBG.out)
  obtain ⟨y0, y1, y2, y3⟩ := box4 HBG2.out
  obtain ⟨z0, z1, z2, z3⟩ := box4 HBT2.out
  clear hb2 hz2
  cases hq1 : rightT G with
  | false =>
    have HR : Hid (instT G T = false) := Lib.hid (by unfold instT; rw [hq1]; rfl)
    clear hq1
    go_wp2
    go_ret
    rw [HR.out]
    exact ⟨rfl, HB2.out⟩
  | true =>
    have HQ1 := Lib.hid hq1
    clear hq1
    go_wp2_with fail
    clear y0 y1 y2 y3 z0 z1 z2 z3
    refine (HRT.out w2 HB2.out (by have := HZ2.out; omega)).mono ?_
    rintro e w3 ⟨rfl, hb3⟩
    have HB3 := Lib.hid (HB2.out.trans (hb3.mono (by have := HZ2.out; omega)))
    have hz3 := hb3.size
    have HZ3 : Hid (w.heap.size + 2 ≤ w3.heap.size) := Lib.hid (by have := HZ2.out; omega)
    obtain ⟨y0, y1, y2, y3⟩ := box4 ((hb3.block _ (lt_blk HBG2.out)).trans HBG2.out)
    obtain ⟨z0, z1, z2, z3⟩ := box4 ((hb3.block _ (lt_blk HBT2.out)).trans HBT2.out)
    clear hb3 hz3
    cases hq2 : rightT T with
    | false =>
      have HR : Hid (instT G T = false) := Lib.hid (by unfold instT; rw [hq2, Bool.false_and, Bool.and_false])
      clear hq2
      go_wp2
      go_ret
      rw [HR.out]
      exact ⟨rfl, HB3.out⟩
    | true =>
      have HR : Hid (instT G T = (standsT G T []).1) := Lib.hid (by unfold instT; rw [hq2, HQ1.out]; rfl)
      have HS3 := Lib.hid (HST.out HQ1.out hq2 w3 HB3.out (by have := HZ3.out; omega))
      clear hq2
      go_wp2_with fail
      refine HS3.out.mono ?_
      rintro e w4 ⟨rfl, hk4, -⟩
      have hb4 : Below w.heap.size w w4 := (HB3.out.trans ((((Below.refl w3.heap.size w3).alloc (Nat.le_refl _) _).mono (by have := HZ3.out; omega)))).trans (below_of_kept hk4 (by have := HZ3.out; omega) (by have := HZ3.out; simp; omega))
      have HB4 := Lib.hid hb4
      clear hk4 hb4
      go_wp2
      go_ret
      rw [HR.out]
      exact ⟨rfl, HB4.out⟩

set_option maxRecDepth 20000 in
set_option maxHeartbeats 2000000 in
theorem stands_var (T : Ty) (p : Nat) (S : Nat → Prop) (u : Value) (w : World) (hS : ∀ g, S g → g < p) (hT : TyAt S w u T) (hM : MapI w p []) :
    Calls Tryd.prog 53 #[tyV 1 0 ⟨#[]⟩ none 0 0, u, .map (some p)] w fun e w' => e = .returned (.bool true) ∧ Kept (· = p) w w' := by
  obtain ⟨A', c', rfl, hc', hm', hn'⟩ := hT.form
  have hpl := hM.lt
  obtain ⟨W1, hW1⟩ : ∃ W1, W1 = (w.alloc (.cells #[.int .i64 1, .int .i64 0, .string ⟨#[]⟩, .slice none 0 0] 24)).alloc (.cells #[.int .i64 T.kind, .int .i64 T.num, .string T.name, .slice A' T.args.length c'] 24) := ⟨_, rfl⟩
  have hb1 : Below w.heap.size w W1 := by rw [hW1]; exact ((Below.refl _ _).alloc (Nat.le_refl _) _).alloc (by simp) _
  have hbg : W1.heap[w.heap.size]? = some (.cells #[.int .i64 1, .int .i64 0, .string ⟨#[]⟩, .slice none 0 0] 24 (0, 0)) := by
    rw [hW1, Below.heap_alloc _ _ _ (by simp)]
    exact heap_alloc_new _ _
  have hbt : W1.heap[w.heap.size + 1]? = some (.cells #[.int .i64 T.kind, .int .i64 T.num, .string T.name, .slice A' T.args.length c'] 24 (0, 0)) := by
    rw [hW1]
    have := heap_alloc_new (w.alloc (.cells #[.int .i64 1, .int .i64 0, .string ⟨#[]⟩, .slice none 0 0] 24)) (.cells #[.int .i64 T.kind, .int .i64 T.num, .string T.name, .slice A' T.args.length c'] 24)
    simpa using this
  have hm1 := hM.keep (W' := W1) (hb1.block p hpl)
  have hlook := look_T hm1 0
  simp only [List.lookup_nil] at hlook
  obtain ⟨W2, hW2⟩ : ∃ W2, W2 = W1.alloc zero4 := ⟨_, rfl⟩
  have hb2 : Below W1.heap.size W1 W2 := by rw [hW2]; exact (Below.refl _ _).alloc (Nat.le_refl _) _
  obtain ⟨W3, hrun, hK3, hk3⟩ := put_T (hm1.keep (W' := W2) (hb2.block p hm1.lt)) 0 (tyV T.kind T.num T.name A' T.args.length c') rfl
  have HKF := Lib.hid (((Kept.of_below (F := (· = p)) hb1).trans' (Kept.of_below hb2)).trans' hk3)
  obtain ⟨y0, y1, y2, y3⟩ := box4 hbg
  obtain ⟨z0, z1, z2, z3⟩ := box4 hbt
  obtain ⟨t0, t1, t2, t3⟩ := box4 ((hb2.block _ (lt_blk hbg)).trans hbg)
  obtain ⟨u0, u1, u2, u3⟩ := box4 ((hb2.block _ (lt_blk hbt)).trans hbt)
  unfold tyV at hrun ⊢
  unfold zero4 at hW2
  rw [hW2] at hrun t0 t1 t2 t3 u0 u1 u2 u3
  rw [hW1] at hlook hrun t0 t1 t2 t3 u0 u1 u2 u3 y0 y1 y2 y3 z0 z1 z2 z3
  clear hm1 hK3 hk3 hW2 hW1 hb2 hb1 hbg hbt hM hT hpl hc' hm' hn'
  go_enter Tryd.func53, Tryd.ntmps53
  go_wp2
  go_ret
  exact ⟨rfl, HKF.out⟩
/-- Instance of a variable, wherever the other type lies. -/
theorem inst_v {T : Ty} {u : Value} {w : World} (hT : TyAt (· < w.heap.size) w u T) :
    Calls Tryd.prog 18 #[tyV 1 0 ⟨#[]⟩ none 0 0, u] w fun e w' => e = .returned (.bool (instT var0 T)) ∧ Below w.heap.size w w' :=
  instance_by (· < w.heap.size) var0 T _ u w (fun g hg => hg) (TyAt.leaf _ w 1 0 ⟨#[]⟩ none 0 (by simp [maxLen]) (by decide)) hT fun _ _ W hb hz =>
    (stands_var T W.heap.size (· < w.heap.size) u (W.alloc (.map #[] 0)) (fun g hg => by omega) (hT.keep fun g hg => ⟨hg, (Below.heap_alloc _ _ _ (by omega)).trans (hb.block g hg)⟩) (MapI.new W)).mono fun e w' ⟨h1, h2⟩ => ⟨h1, h2, trivial⟩
end Go.Proofs.YtbhicpjhijondaaDoor
