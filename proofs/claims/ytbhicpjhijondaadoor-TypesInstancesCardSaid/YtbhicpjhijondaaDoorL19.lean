/- The reference's match: a variable. -/
import Derived.Test.YtbhicpjhijondaaDoorL18
import Derived.Deep.RegionHeld
namespace Go.Proofs.YtbhicpjhijondaaDoor
open Go.RowKit Go.Lib Go.Vfs Go.Par Go.Typ Go.Shelf
set_option linter.unusedVariables false
set_option linter.unusedSimpArgs false

section
variable {P : Program} (w : World)
theorem wp_appKS {o : Oper} {a : Act} {K : Act → World → Prop} {Q : Exit → Act → World → Prop} (s x : Operand) (t : TypeId)
    (ho : o.op = .call { callee := .builtin .append, args := #[s, x], argTypes := #[t, t] })
    (base : Nat) (e : TypeId) (k : Nat) (E : ElemK P t e k) (v : Value) (n : Nat) (xs : List Value) (hs : a.eval s = v) (hown : w.ownsRow base e k v n xs)
    (ad : Addr) (m c : Nat) (news : List Value) (hx : a.eval x = .slice (some ad) m c) (hl : news.length = m * k) (hcells : ∀ j u, news[j]? = some u → w.cell? (ad.add j) = some u) (h1 : ∀ u ∈ news, u.oneCell' = true)
    (hbd : n + m ≤ 1099511627776) (hbase : base ≤ w.heap.size)
    (h : ∀ v' w', w'.ownsRow base e k v' (n + m) (xs ++ news) → w.grownBy w' v.ownBlock → (v'.ownBlock = v.ownBlock ∨ v'.ownBlock = some w.heap.size) → K (a.put o.dst v') w') : o.wp P a w K Q := by
  obtain ⟨v', w', hrun, h2, h3, h4⟩ := run_appK (P := P) w base t o.type e k E v n xs hown ad m c news hl hcells h1 hbd hbase
  unfold Oper.wp execOp
  simp only [ho, resolve, invoke, builtin, Sem.run_bind, Sem.run_pure, Result.andThen_ok, List.map_toArray, List.map_cons, List.map_nil, hs, hx, hrun]
  exact h v' w' h2 h3 h4
end

theorem cells_at {W : World} {z : Nat} {cs : List Value} {t : TypeId} (h : W.heap[z]? = some (.cells cs.toArray t (0, 0))) : ∀ j u, cs[j]? = some u → W.cell? ((⟨z, 0, none⟩ : Addr).add j) = some u := by
  intro j u hj
  rw [add_addr, Nat.zero_add]
  simp [World.cell?, h, hj]
set_option maxRecDepth 20000 in
set_option maxHeartbeats 4000000 in
theorem match_var (B : Nat) (G T : Ty) (kn : List (Int × Ty)) (nv tv v u : Value) (us : List Value) (w : World) (hB : B ≤ w.heap.size) (hG : TyAt (· < B) w v G) (hT : TyAt (· < B) w u T) (hK : KnAt B w kn nv tv us)
    (hp : kn.length + G.parts ≤ 1000000000) (k1 : G.kind = 1) : Calls Tryd.prog 54 #[nv, tv, v, u] w (MPost B G T kn nv tv w) := by
  obtain ⟨P, hP⟩ : ∃ P, P = MPost B G T kn nv tv w := ⟨_, rfl⟩
  have HPO := Lib.hid hP
  rw [← hP]
  clear hP
  obtain ⟨A, c, rfl, hc, hm, hn⟩ := hG.form
  obtain ⟨A', c', rfl, hc', hm', hn'⟩ := hT.form
  obtain ⟨W1, hW1⟩ : ∃ W1, W1 = (w.alloc (.cells #[.int .i64 G.kind, .int .i64 G.num, .string G.name, .slice A G.args.length c] 24)).alloc (.cells #[.int .i64 T.kind, .int .i64 T.num, .string T.name, .slice A' T.args.length c'] 24) := ⟨_, rfl⟩
  have hb1 : Below w.heap.size w W1 := by rw [hW1]; exact ((Below.refl _ _).alloc (Nat.le_refl _) _).alloc (by simp) _
  have hz1 : W1.heap.size = w.heap.size + 2 := by rw [hW1]; simp
  have hbx : W1.heap[w.heap.size]? = some (.cells #[.int .i64 G.kind, .int .i64 G.num, .string G.name, .slice A G.args.length c] 24 (0, 0)) := by
    rw [hW1, Below.heap_alloc _ _ _ (by simp)]; exact heap_alloc_new _ _
  have hby : W1.heap[w.heap.size + 1]? = some (.cells #[.int .i64 T.kind, .int .i64 T.num, .string T.name, .slice A' T.args.length c'] 24 (0, 0)) := by
    rw [hW1]
    have := heap_alloc_new (w.alloc (.cells #[.int .i64 G.kind, .int .i64 G.num, .string G.name, .slice A G.args.length c] 24)) (.cells #[.int .i64 T.kind, .int .i64 T.num, .string T.name, .slice A' T.args.length c'] 24)
    simpa using this
  have hK1 := hK.below hB hb1
  have hT1 : TyAt (· < B) W1 (tyV T.kind T.num T.name A' T.args.length c') T := hT.keep fun g (hg : g < B) => ⟨hg, hb1.block g (by omega)⟩
  have hlow := fun g => hK.low (g := g)
  obtain ⟨A1, c1, A2, c2, rfl, rfl⟩ := hK.form
  have hkl : kn.length ≤ 1000000000 := by omega
  obtain ⟨y0, y1, y2, y3⟩ := box4 hbx
  rw [hW1] at y0 y1 y2 y3
  have HB := Lib.hid hB; have HB1 := Lib.hid hb1; have HZ1 := Lib.hid hz1; have HBX := Lib.hid hbx; have HBY := Lib.hid hby; have HK1 := Lib.hid hK1; have HT1 := Lib.hid hT1; have HLOW := Lib.hid hlow
  have H1 := Lib.hid k1; have HP := Lib.hid hp
  have g1 : (G.kind == 1) = true := by simp [k1]
  clear hG hT hK hB hb1 hz1 hbx hby hK1 hT1 hlow hc hm hn hc' hm' hn' k1 hp
  unfold tyV
  go_enter Tryd.func54, Tryd.ntmps54
  go_wp2
  rw [← hW1]
  clear hW1 y0 y1 y2 y3 g1
  go_loopw [11] (fun iv W => ∃ (k : Nat), k ≤ kn.length ∧ iv = .int .i64 k ∧ Hid (∀ j (h : j < kn.length), j < k → ¬ kn[j].1 = G.num) ∧ ∃ n, W = W1.drewN n) (fun iv _ => kn.length - (RowKit.intOf iv).toNat)
  case atStart => exact ⟨0, by omega, rfl, Lib.hid (fun j _ h => by omega), 0, rfl⟩
  case round =>
    obtain ⟨k, hk, rfl, HNO, n0, rfl⟩ := hrel
    obtain ⟨y0, y1, y2, y3⟩ := box4 HBX.out
    obtain ⟨z0, z1, z2, z3⟩ := box4 HBY.out
    by_cases hlt : k < kn.length
    · obtain ⟨b, off, c9, e9, hx⟩ := HK1.out.nm hlt
      injection e9 with e1 _ e2
      subst e1 e2
      obtain ⟨m, hm⟩ : ∃ m, m = kn[k].1 := ⟨_, rfl⟩
      rw [← hm] at hx
      have HM := Lib.hid hm
      clear hm
      go_wp2_with fail
      go_quiet (fail)
      by_cases he : m = G.num
      · have heq : (m == G.num) = true := by simp [he]
        have HLK : Hid (kn.lookup G.num = some kn[k].2) := Lib.hid (lookup_at hlt (by rw [← HM.out]; exact he) HNO.out)
        clear he
        obtain ⟨bt, ot, c8, Au, cu, e8, hbt, htu, x0, x1, x2, x3⟩ := HK1.out.ty hlt
        injection e8 with e1 _ e2
        subst e1 e2
        have HST : Hid (standsT G T kn = (same kn[k].2 T, kn)) := Lib.hid (by rw [standsT_eq, if_pos H1.out, HLK.out])
        generalize kn[k].2 = U at *
        obtain ⟨q, hq⟩ : ∃ q, q = same U T := ⟨_, rfl⟩
        rw [← hq] at HST
        have hca : ∀ W, Below W1.heap.size W1 W → _ := fun W hW => sameType_any U T _ _ W (htu.keep fun g (hg : g < B) => ⟨by have := HB.out; have := HB1.out.size; have := hW.size; omega, hW.block g (by have := HB.out; have := HB1.out.size; omega)⟩) (HT1.out.keep fun g (hg : g < B) => ⟨by have := HB.out; have := HB1.out.size; have := hW.size; omega, hW.block g (by have := HB.out; have := HB1.out.size; omega)⟩)
        rw [← hq] at hca
        unfold tyV at hca
        have HCA := Lib.hid hca
        have hlb := lt_blk HBY.out
        have HSK : Hid (∀ W, Below W1.heap.size W1 W → W.cell? ⟨bt, ot + k * 4, none⟩ = some (.int .i64 U.kind) ∧ W.cell? ⟨bt, ot + k * 4 + 1, none⟩ = some (.int .i64 U.num) ∧ W.cell? ⟨bt, ot + k * 4 + 2, none⟩ = some (.string U.name) ∧ W.cell? ⟨bt, ot + k * 4 + 3, none⟩ = some (.slice Au U.args.length cu) ∧
            W.cell? ⟨w.heap.size + 1, 0, none⟩ = some (.int .i64 T.kind) ∧ W.cell? ⟨w.heap.size + 1, 1, none⟩ = some (.int .i64 T.num) ∧ W.cell? ⟨w.heap.size + 1, 2, none⟩ = some (.string T.name) ∧ W.cell? ⟨w.heap.size + 1, 3, none⟩ = some (.slice A' T.args.length c')) :=
          Lib.hid fun W h => ⟨(h.cell (p := ⟨_, _, none⟩) hbt).trans x0, (h.cell (p := ⟨_, _, none⟩) hbt).trans x1, (h.cell (p := ⟨_, _, none⟩) hbt).trans x2, (h.cell (p := ⟨_, _, none⟩) hbt).trans x3, (h.cell (p := ⟨_, _, none⟩) hlb).trans z0, (h.cell (p := ⟨_, _, none⟩) hlb).trans z1, (h.cell (p := ⟨_, _, none⟩) hlb).trans z2, (h.cell (p := ⟨_, _, none⟩) hlb).trans z3⟩
        clear hca htu x0 x1 x2 x3 z0 z1 z2 z3 y0 y1 y2 y3 hx hq
        obtain ⟨W2, hW2⟩ : ∃ W2, W2 = (W1.drewN n0).drewN nq := ⟨_, rfl⟩
        have HB2 : Hid (Below W1.heap.size W1 W2) := Lib.hid (by rw [hW2]; exact below_drewN' (below_drewN' (Below.refl _ _) _) _)
        have HBD : Hid (Below W1.heap.size W1 W2.drew) := Lib.hid HB2.out.drew
        rw [← hW2]
        clear hW2
        go_wp2_with fail
        go_region_held (fun W : World => W.cell? ⟨bt, ot + k * 4, none⟩ = some (.int .i64 U.kind) ∧ W.cell? ⟨bt, ot + k * 4 + 1, none⟩ = some (.int .i64 U.num) ∧ W.cell? ⟨bt, ot + k * 4 + 2, none⟩ = some (.string U.name) ∧ W.cell? ⟨bt, ot + k * 4 + 3, none⟩ = some (.slice Au U.args.length cu) ∧
            W.cell? ⟨w.heap.size + 1, 0, none⟩ = some (.int .i64 T.kind) ∧ W.cell? ⟨w.heap.size + 1, 1, none⟩ = some (.int .i64 T.num) ∧ W.cell? ⟨w.heap.size + 1, 2, none⟩ = some (.string T.name) ∧ W.cell? ⟨w.heap.size + 1, 3, none⟩ = some (.slice A' T.args.length c'))
          (first | exact HSK.out _ HBD.out | exact HSK.out _ (by assumption)) ((go_at_call 21; refine (HCA.out _ HBD.out).mono ?_; rintro e w5 ⟨rfl, hb5⟩; have HB5 := HBD.out.trans (hb5.mono HBD.out.size)))
        go_wp2
        go_ret3
        rw [HPO.out]
        have hbz := HB1.out.trans (HB5.mono HB1.out.size)
        exact mpost HST.out (HK1.out.below (by have := HB.out; have := HB1.out.size; omega) HB5) (Kept.of_below hbz) (fun g e => .inl e) (fun g e => .inl e)
      · have heq : (m == G.num) = false := by simp [he]
        have HNI : Hid (∀ j (h : j < kn.length), j < k + 1 → ¬ kn[j].1 = G.num) := Lib.hid fun j h hj => by
          by_cases e : j < k
          · exact HNO.out j h e
          · have : j = k := by omega
            subst this
            rw [← HM.out]; exact he
        clear he
        go_wp2
        go_roundw
        case rel => exact ⟨k + 1, by omega, by go_num, HNI, n0 + nq, rfl⟩
        case measure => simp [RowKit.intOf]; omega
    · have hkl2 : k = kn.length := by omega
      have HST : Hid (standsT G T kn = (true, kn ++ [(G.num, T)])) := Lib.hid (by
        rw [standsT_eq, if_pos H1.out, lookup_none (fun j h => HNO.out j h (by omega))])
      go_upto_region 7 with fail
      --<R7
      obtain ⟨W2, hW2⟩ : ∃ W2, W2 = W1.drewN n0 := ⟨_, rfl⟩
      obtain ⟨W0, hW0⟩ : ∃ W0, W0 = W2.drew := ⟨_, rfl⟩
      have hbd : Below W1.heap.size W1 W0 := by rw [hW0, hW2]; exact (below_drewN' (Below.refl W1.heap.size W1) n0).drew
      have hsz0 : W0.heap.size = W1.heap.size := by rw [hW0, hW2]; rfl
      have HK2 := Lib.hid (HK1.out.below (by have := HB.out; have := HB1.out.size; omega) hbd)
      have HT2 : Hid (TyAt (· < B) W0 (tyV T.kind T.num T.name A' T.args.length c') T) := Lib.hid (HT1.out.keep fun g (hg : g < B) => ⟨hg, hbd.block g (by have := HB.out; have := HB1.out.size; omega)⟩)
      have HKW : Hid (Kept (FK (.slice A1 kn.length c1) (.slice A2 kn.length c2)) w W0) := Lib.hid (Kept.of_below (HB1.out.trans (hbd.mono HB1.out.size)))
      have HZW : Hid (w.heap.size + 2 ≤ W0.heap.size) := Lib.hid (by rw [hsz0, HZ1.out]; exact Nat.le_refl _)
      have hBW : B ≤ W0.heap.size := by have := HB.out; have := HZW.out; omega
      have ho1 := HK2.out.own1
      have ho2 := HK2.out.own2
      have hne := HK2.out.ne
      have hk0 : Kept (FK (.slice A1 kn.length c1) (.slice A2 kn.length c2)) W0 W0 := Kept.refl _ _
      have HSK : Hid (∀ W, Kept (FK (.slice A1 kn.length c1) (.slice A2 kn.length c2)) W0 W → W.cell? ⟨w.heap.size, 1, none⟩ = some (.int .i64 G.num) ∧ W.cell? ⟨w.heap.size + 1, 0, none⟩ = some (.int .i64 T.kind) ∧ W.cell? ⟨w.heap.size + 1, 1, none⟩ = some (.int .i64 T.num) ∧ W.cell? ⟨w.heap.size + 1, 2, none⟩ = some (.string T.name) ∧ W.cell? ⟨w.heap.size + 1, 3, none⟩ = some (.slice A' T.args.length c')) := Lib.hid fun W h => by
        have h1 : W.heap[w.heap.size]? = W1.heap[w.heap.size]? := (h.block _ (by have := HZW.out; omega) (fun hf => by have := (HLOW.out _ hf).2; omega)).trans (hbd.block _ (by have := HZ1.out; omega))
        have h2 : W.heap[w.heap.size + 1]? = W1.heap[w.heap.size + 1]? := (h.block _ (by have := HZW.out; omega) (fun hf => by have := (HLOW.out _ hf).2; omega)).trans (hbd.block _ (by have := HZ1.out; omega))
        exact ⟨(box4 (h1.trans HBX.out)).2.1, box4 (h2.trans HBY.out)⟩
      have HS0 := Lib.hid (HSK.out W0 hk0)
      rw [← hW2]
      clear hW2 y0 y1 y2 y3 z0 z1 z2 z3 hsz0 hbd
      refine wp_region_held (S := (fun W : World => W.cell? ⟨w.heap.size, 1, none⟩ = some (.int .i64 G.num) ∧ W.cell? ⟨w.heap.size + 1, 0, none⟩ = some (.int .i64 T.kind) ∧ W.cell? ⟨w.heap.size + 1, 1, none⟩ = some (.int .i64 T.num) ∧ W.cell? ⟨w.heap.size + 1, 2, none⟩ = some (.string T.name) ∧ W.cell? ⟨w.heap.size + 1, 3, none⟩ = some (.slice A' T.args.length c'))) (by kernel_rfl) ?_
      rw [show ({ heap := W2.heap, tape := W2.tape, drawn := W2.drawn + 1, os := W2.os, output := W2.output } : World) = W0 from hW0.symm]
      clear hW0
      refine takeD (i := 0) (s := 38) (v := .slice A1 kn.length c1) rfl rfl (by kernel_rfl) (by kernel_rfl) (by kernel_rfl) (fun _ _ _ h => h) (Or.inl ⟨by rfl, fun w' hS => by obtain ⟨s0, s1, s2, s3, s4⟩ := hS; go_simp⟩) HS0.out ?_
      try simp only [List.setIfInBounds_toArray, List.set_cons_zero, List.set_cons_succ]
      refine takeD (i := 1) (s := 39) (v := .pointer (some ⟨w.heap.size, 1, none⟩)) rfl rfl (by kernel_rfl) (by kernel_rfl) (by kernel_rfl) (fun _ _ _ h => h) (Or.inl ⟨by rfl, fun w' hS => by obtain ⟨s0, s1, s2, s3, s4⟩ := hS; go_simp⟩) HS0.out ?_
      try simp only [List.setIfInBounds_toArray, List.set_cons_zero, List.set_cons_succ]
      refine takeD (i := 2) (s := 40) (v := .int .i64 G.num) rfl rfl (by kernel_rfl) (by kernel_rfl) (by kernel_rfl) (fun _ _ _ h => h) (Or.inl ⟨by rfl, fun w' hS => by obtain ⟨s0, s1, s2, s3, s4⟩ := hS; go_simp⟩) HS0.out ?_
      try simp only [List.setIfInBounds_toArray, List.set_cons_zero, List.set_cons_succ]
      refine takeD (i := 5) (s := 43) (v := .slice A2 kn.length c2) rfl rfl (by kernel_rfl) (by kernel_rfl) (by kernel_rfl) (fun _ _ _ h => h) (Or.inl ⟨by rfl, fun w' hS => by obtain ⟨s0, s1, s2, s3, s4⟩ := hS; go_simp⟩) HS0.out ?_
      try simp only [List.setIfInBounds_toArray, List.set_cons_zero, List.set_cons_succ]
      refine takeD (i := 6) (s := 44) (v := .agg #[.int .i64 T.kind, .int .i64 T.num, .string T.name, .slice A' T.args.length c']) rfl rfl (by kernel_rfl) (by kernel_rfl) (by kernel_rfl) (fun _ _ _ h => h) (Or.inl ⟨by rfl, fun w' hS => by obtain ⟨s0, s1, s2, s3, s4⟩ := hS; go_simp⟩) HS0.out ?_
      try simp only [List.setIfInBounds_toArray, List.set_cons_zero, List.set_cons_succ]
      refine wpAnyH_all (rs := [3, 7]) (by kernel_rfl) (by simp) ?_
      intro i hi
      simp only [List.mem_cons, List.not_mem_nil, or_false] at hi
      rcases hi with rfl | rfl
      · refine wpOp_of rfl rfl (fun K hK => ?_)
        go_simp
        obtain ⟨wa1, hwa1⟩ : ∃ W, W = World.alloc (W0) (.cells #[.int .i64 G.num] 3) := ⟨_, rfl⟩
        have hk1 : Kept (FK (.slice A1 kn.length c1) (.slice A2 kn.length c2)) W0 wa1 := by rw [hwa1]; exact Kept.alloc hk0 _
        have hp1 : wa1.heap[W0.heap.size]? = some (.cells #[.int .i64 G.num] 3 (0, 0)) := by rw [hwa1]; exact heap_alloc_new _ _
        have hown1_1 : wa1.ownsRow B 3 1 (.slice A1 kn.length c1) kn.length (ints (kn.map (·.1))) := by rw [hwa1]; exact World.ownsRow.alloc ho1 _
        have hown2_1 : wa1.ownsRow B 24 4 (.slice A2 kn.length c2) kn.length (us.flatMap flatC) := by rw [hwa1]; exact World.ownsRow.alloc ho2 _
        have hsz1 : W0.heap.size < wa1.heap.size := by rw [hwa1]; simp
        have HSa1 := Lib.hid (HSK.out wa1 hk1)
        rw [← hwa1]
        clear hwa1
        refine hK _ _ ⟨HSa1.out, ?_⟩
        clear hK K
        try simp only [List.setIfInBounds_toArray, List.set_cons_zero, List.set_cons_succ]
        have hkb_wa1 : W0.heap.size ≤ wa1.heap.size := hk1.size
        refine wpAnyH_all (rs := [4, 7]) (by kernel_rfl) (by simp) ?_
        intro i hi
        simp only [List.mem_cons, List.not_mem_nil, or_false] at hi
        rcases hi with rfl | rfl
        · refine wpOp_of rfl rfl (fun K hK => ?_)
          refine wp_appKS _ (.tmp 38) (.tmp 41) 40 rfl B 3 1 intK _ kn.length _ rfl hown1_1 ⟨W0.heap.size, 0, none⟩ 1 1 [.int .i64 G.num] rfl rfl (cells_at hp1) (by intro u hu; rw [List.mem_singleton.1 hu]; rfl) (by omega) (hk1.size |> Nat.le_trans hBW) (fun v2 w2 hw2 hg2 hat2 => ?_)
          have hk2 : Kept (FK (.slice A1 kn.length c1) (.slice A2 kn.length c2)) W0 w2 := hk1.grown hg2 (fun k e => .inl (.inl e))
          have hown2_2 : w2.ownsRow B 24 4 (.slice A2 kn.length c2) kn.length (us.flatMap flatC) := ownsRow_block hown2_1 fun g e => hg2.block g (hown2_1.lt g e).2 (fun e' => hne g e'.symm e)
          have HSa2 := Lib.hid (HSK.out w2 hk2)
          refine hK _ _ ⟨HSa2.out, ?_⟩
          clear hK K
          try simp only [List.setIfInBounds_toArray, List.set_cons_zero, List.set_cons_succ]
          have hkb_w2 : W0.heap.size ≤ w2.heap.size := hk2.size
          refine wpAnyH_all (rs := [7]) (by kernel_rfl) (by simp) ?_
          intro i hi
          simp only [List.mem_cons, List.not_mem_nil, or_false] at hi
          subst hi
          refine wpOp_of rfl rfl (fun K hK => ?_)
          go_simp
          obtain ⟨wa3, hwa3⟩ : ∃ W, W = World.alloc (w2) (.cells #[.int .i64 T.kind, .int .i64 T.num, .string T.name, .slice A' T.args.length c'] 24) := ⟨_, rfl⟩
          have hk3 : Kept (FK (.slice A1 kn.length c1) (.slice A2 kn.length c2)) W0 wa3 := by rw [hwa3]; exact Kept.alloc hk2 _
          have hp3 : wa3.heap[w2.heap.size]? = some (.cells #[.int .i64 T.kind, .int .i64 T.num, .string T.name, .slice A' T.args.length c'] 24 (0, 0)) := by rw [hwa3]; exact heap_alloc_new _ _
          have hown1_3 : wa3.ownsRow B 3 1 v2 (kn.length + 1) (ints (kn.map (·.1)) ++ [.int .i64 G.num]) := by rw [hwa3]; exact World.ownsRow.alloc hw2 _
          have hown2_3 : wa3.ownsRow B 24 4 (.slice A2 kn.length c2) kn.length (us.flatMap flatC) := by rw [hwa3]; exact World.ownsRow.alloc hown2_2 _
          have hsz3 : w2.heap.size < wa3.heap.size := by rw [hwa3]; simp
          have HSa3 := Lib.hid (HSK.out wa3 hk3)
          rw [← hwa3]
          clear hwa3
          refine hK _ _ ⟨HSa3.out, ?_⟩
          clear hK K
          try simp only [List.setIfInBounds_toArray, List.set_cons_zero, List.set_cons_succ]
          have hkb_wa3 : W0.heap.size ≤ wa3.heap.size := hk3.size
          refine wpAnyH_all (rs := [8]) (by kernel_rfl) (by simp) ?_
          intro i hi
          simp only [List.mem_cons, List.not_mem_nil, or_false] at hi
          subst hi
          refine wpOp_of rfl rfl (fun K hK => ?_)
          refine wp_appKS _ (.tmp 43) (.tmp 45) 22 rfl B 24 4 tyE _ kn.length _ rfl hown2_3 ⟨w2.heap.size, 0, none⟩ 1 1 [.int .i64 T.kind, .int .i64 T.num, .string T.name, .slice A' T.args.length c'] rfl rfl (cells_at hp3) (one4 _ _ _ _ _ _) (by omega) (hk3.size |> Nat.le_trans hBW) (fun v4 w4 hw4 hg4 hat4 => ?_)
          have hk4 : Kept (FK (.slice A1 kn.length c1) (.slice A2 kn.length c2)) W0 w4 := hk3.grown hg4 (fun k e => .inl (.inr e))
          have hfin1 : w4.ownsRow B 3 1 v2 (kn.length + 1) (ints (kn.map (·.1)) ++ [.int .i64 G.num]) := ownsRow_block hown1_3 fun g e => hg4.block g (hown1_3.lt g e).2 (fun e' => by
            rcases hat2 with e1 | e1
            · exact hne g (e1.symm.trans e) e'.symm
            · have e2 := (ho2.lt g e'.symm).2; rw [e1] at e; injection e with e; have := hkb_wa1; omega)
          have HSa4 := Lib.hid (HSK.out w4 hk4)
          refine hK _ _ ⟨HSa4.out, ?_⟩
          clear hK K
          try simp only [List.setIfInBounds_toArray, List.set_cons_zero, List.set_cons_succ]
          have hkb_w4 : W0.heap.size ≤ w4.heap.size := hk4.size
          refine takeD (i := 9) (s := 8) (v := v2) rfl rfl (by kernel_rfl) (by kernel_rfl) (by kernel_rfl) (fun _ _ _ h => h) (Or.inl ⟨by rfl, fun w' hS => by obtain ⟨s0, s1, s2, s3, s4⟩ := hS; go_simp⟩) HSa4.out ?_
          try simp only [List.setIfInBounds_toArray, List.set_cons_zero, List.set_cons_succ]
          refine takeD (i := 10) (s := 9) (v := v4) rfl rfl (by kernel_rfl) (by kernel_rfl) (by kernel_rfl) (fun _ _ _ h => h) (Or.inl ⟨by rfl, fun w' hS => by obtain ⟨s0, s1, s2, s3, s4⟩ := hS; go_simp⟩) HSa4.out ?_
          try simp only [List.setIfInBounds_toArray, List.set_cons_zero, List.set_cons_succ]
          refine takeD (i := 11) (s := 10) (v := .bool true) rfl rfl (by kernel_rfl) (by kernel_rfl) (by kernel_rfl) (fun _ _ _ h => h) (Or.inl ⟨by rfl, fun w' hS => by obtain ⟨s0, s1, s2, s3, s4⟩ := hS; go_simp⟩) HSa4.out ?_
          try simp only [List.setIfInBounds_toArray, List.set_cons_zero, List.set_cons_succ]
          refine wpAnyH_done (by kernel_rfl) ?_ _
          have hlt1 := hkb_wa1
          have hlt2 := hkb_wa3
          have hne2 : ∀ g, v2.ownBlock = some g → v4.ownBlock ≠ some g := fun g e e' => by
            rcases hat2 with e1 | e1
            · rcases hat4 with e2 | e2
              · exact hne g (e1.symm.trans e) (e2.symm.trans e')
              · rw [e2] at e'; injection e' with e'; have := (ho1.lt g (e1.symm.trans e)).2; omega
            · rcases hat4 with e2 | e2
              · rw [e1] at e; injection e with e; have := (ho2.lt g (e2.symm.trans e')).2; omega
              · have hx := (hw2.lt g e).2; rw [e2] at e'; injection e' with e'; omega
          have HE : Hid (MPost B G T kn (.slice A1 kn.length c1) (.slice A2 kn.length c2) w (.returned (.tuple #[v2, v4, .bool true])) w4) := Lib.hid (mpost HST.out (HK2.out.push (u := tyV T.kind T.num T.name A' T.args.length c') hBW hk4 (fun g hf => (HK2.out.low hf).1) HT2.out hfin1 hw4 hne2)
            (HKW.out.trans' (F := FK (.slice A1 kn.length c1) (.slice A2 kn.length c2)) hk4)
            (fun g e => by rcases hat2 with e1 | e1; exact .inl (e1.symm.trans e); rw [e1] at e; injection e with e; right; have := HZW.out; omega)
            (fun g e => by rcases hat4 with e1 | e1; exact .inl (e1.symm.trans e); rw [e1] at e; injection e with e; right; have := HZW.out; omega))
          go_wp2
          go_ret3
          rw [HPO.out]
          exact HE.out
        · refine wpOp_of rfl rfl (fun K hK => ?_)
          go_simp
          obtain ⟨wa2, hwa2⟩ : ∃ W, W = World.alloc (wa1) (.cells #[.int .i64 T.kind, .int .i64 T.num, .string T.name, .slice A' T.args.length c'] 24) := ⟨_, rfl⟩
          have hk2 : Kept (FK (.slice A1 kn.length c1) (.slice A2 kn.length c2)) W0 wa2 := by rw [hwa2]; exact Kept.alloc hk1 _
          have hp2 : wa2.heap[wa1.heap.size]? = some (.cells #[.int .i64 T.kind, .int .i64 T.num, .string T.name, .slice A' T.args.length c'] 24 (0, 0)) := by rw [hwa2]; exact heap_alloc_new _ _
          have hown1_2 : wa2.ownsRow B 3 1 (.slice A1 kn.length c1) kn.length (ints (kn.map (·.1))) := by rw [hwa2]; exact World.ownsRow.alloc hown1_1 _
          have hown2_2 : wa2.ownsRow B 24 4 (.slice A2 kn.length c2) kn.length (us.flatMap flatC) := by rw [hwa2]; exact World.ownsRow.alloc hown2_1 _
          have hz1_2 : wa2.heap[W0.heap.size]? = some (.cells #[.int .i64 G.num] 3 (0, 0)) := by rw [hwa2]; exact (Below.heap_alloc _ _ _ (lt_blk hp1)).trans hp1
          have hsz2 : wa1.heap.size < wa2.heap.size := by rw [hwa2]; simp
          have HSa2 := Lib.hid (HSK.out wa2 hk2)
          rw [← hwa2]
          clear hwa2
          refine hK _ _ ⟨HSa2.out, ?_⟩
          clear hK K
          try simp only [List.setIfInBounds_toArray, List.set_cons_zero, List.set_cons_succ]
          have hkb_wa2 : W0.heap.size ≤ wa2.heap.size := hk2.size
          refine wpAnyH_all (rs := [4]) (by kernel_rfl) (by simp) ?_
          intro i hi
          simp only [List.mem_cons, List.not_mem_nil, or_false] at hi
          subst hi
          refine wpOp_of rfl rfl (fun K hK => ?_)
          refine wp_appKS _ (.tmp 38) (.tmp 41) 40 rfl B 3 1 intK _ kn.length _ rfl hown1_2 ⟨W0.heap.size, 0, none⟩ 1 1 [.int .i64 G.num] rfl rfl (cells_at hz1_2) (by intro u hu; rw [List.mem_singleton.1 hu]; rfl) (by omega) (hk2.size |> Nat.le_trans hBW) (fun v3 w3 hw3 hg3 hat3 => ?_)
          have hk3 : Kept (FK (.slice A1 kn.length c1) (.slice A2 kn.length c2)) W0 w3 := hk2.grown hg3 (fun k e => .inl (.inl e))
          have hown2_3 : w3.ownsRow B 24 4 (.slice A2 kn.length c2) kn.length (us.flatMap flatC) := ownsRow_block hown2_2 fun g e => hg3.block g (hown2_2.lt g e).2 (fun e' => hne g e'.symm e)
          have hz2_3 : w3.heap[wa1.heap.size]? = some (.cells #[.int .i64 T.kind, .int .i64 T.num, .string T.name, .slice A' T.args.length c'] 24 (0, 0)) := (hg3.block _ (lt_blk hp2) (fun e' => by have := (ho1.lt _ e'.symm).2; have := hk2.size; omega)).trans hp2
          have HSa3 := Lib.hid (HSK.out w3 hk3)
          refine hK _ _ ⟨HSa3.out, ?_⟩
          clear hK K
          try simp only [List.setIfInBounds_toArray, List.set_cons_zero, List.set_cons_succ]
          have hkb_w3 : W0.heap.size ≤ w3.heap.size := hk3.size
          refine wpAnyH_all (rs := [8]) (by kernel_rfl) (by simp) ?_
          intro i hi
          simp only [List.mem_cons, List.not_mem_nil, or_false] at hi
          subst hi
          refine wpOp_of rfl rfl (fun K hK => ?_)
          refine wp_appKS _ (.tmp 43) (.tmp 45) 22 rfl B 24 4 tyE _ kn.length _ rfl hown2_3 ⟨wa1.heap.size, 0, none⟩ 1 1 [.int .i64 T.kind, .int .i64 T.num, .string T.name, .slice A' T.args.length c'] rfl rfl (cells_at hz2_3) (one4 _ _ _ _ _ _) (by omega) (hk3.size |> Nat.le_trans hBW) (fun v4 w4 hw4 hg4 hat4 => ?_)
          have hk4 : Kept (FK (.slice A1 kn.length c1) (.slice A2 kn.length c2)) W0 w4 := hk3.grown hg4 (fun k e => .inl (.inr e))
          have hfin1 : w4.ownsRow B 3 1 v3 (kn.length + 1) (ints (kn.map (·.1)) ++ [.int .i64 G.num]) := ownsRow_block hw3 fun g e => hg4.block g (hw3.lt g e).2 (fun e' => by
            rcases hat3 with e1 | e1
            · exact hne g (e1.symm.trans e) e'.symm
            · have e2 := (ho2.lt g e'.symm).2; rw [e1] at e; injection e with e; have := hkb_wa2; omega)
          have HSa4 := Lib.hid (HSK.out w4 hk4)
          refine hK _ _ ⟨HSa4.out, ?_⟩
          clear hK K
          try simp only [List.setIfInBounds_toArray, List.set_cons_zero, List.set_cons_succ]
          have hkb_w4 : W0.heap.size ≤ w4.heap.size := hk4.size
          refine takeD (i := 9) (s := 8) (v := v3) rfl rfl (by kernel_rfl) (by kernel_rfl) (by kernel_rfl) (fun _ _ _ h => h) (Or.inl ⟨by rfl, fun w' hS => by obtain ⟨s0, s1, s2, s3, s4⟩ := hS; go_simp⟩) HSa4.out ?_
          try simp only [List.setIfInBounds_toArray, List.set_cons_zero, List.set_cons_succ]
          refine takeD (i := 10) (s := 9) (v := v4) rfl rfl (by kernel_rfl) (by kernel_rfl) (by kernel_rfl) (fun _ _ _ h => h) (Or.inl ⟨by rfl, fun w' hS => by obtain ⟨s0, s1, s2, s3, s4⟩ := hS; go_simp⟩) HSa4.out ?_
          try simp only [List.setIfInBounds_toArray, List.set_cons_zero, List.set_cons_succ]
          refine takeD (i := 11) (s := 10) (v := .bool true) rfl rfl (by kernel_rfl) (by kernel_rfl) (by kernel_rfl) (fun _ _ _ h => h) (Or.inl ⟨by rfl, fun w' hS => by obtain ⟨s0, s1, s2, s3, s4⟩ := hS; go_simp⟩) HSa4.out ?_
          try simp only [List.setIfInBounds_toArray, List.set_cons_zero, List.set_cons_succ]
          refine wpAnyH_done (by kernel_rfl) ?_ _
          have hlt1 := hkb_wa2
          have hlt2 := hkb_w3
          have hne2 : ∀ g, v3.ownBlock = some g → v4.ownBlock ≠ some g := fun g e e' => by
            rcases hat3 with e1 | e1
            · rcases hat4 with e2 | e2
              · exact hne g (e1.symm.trans e) (e2.symm.trans e')
              · rw [e2] at e'; injection e' with e'; have := (ho1.lt g (e1.symm.trans e)).2; omega
            · rcases hat4 with e2 | e2
              · rw [e1] at e; injection e with e; have := (ho2.lt g (e2.symm.trans e')).2; omega
              · have hx := (hw3.lt g e).2; rw [e2] at e'; injection e' with e'; omega
          have HE : Hid (MPost B G T kn (.slice A1 kn.length c1) (.slice A2 kn.length c2) w (.returned (.tuple #[v3, v4, .bool true])) w4) := Lib.hid (mpost HST.out (HK2.out.push (u := tyV T.kind T.num T.name A' T.args.length c') hBW hk4 (fun g hf => (HK2.out.low hf).1) HT2.out hfin1 hw4 hne2)
            (HKW.out.trans' (F := FK (.slice A1 kn.length c1) (.slice A2 kn.length c2)) hk4)
            (fun g e => by rcases hat3 with e1 | e1; exact .inl (e1.symm.trans e); rw [e1] at e; injection e with e; right; have := HZW.out; omega)
            (fun g e => by rcases hat4 with e1 | e1; exact .inl (e1.symm.trans e); rw [e1] at e; injection e with e; right; have := HZW.out; omega))
          go_wp2
          go_ret3
          rw [HPO.out]
          exact HE.out
      · refine wpOp_of rfl rfl (fun K hK => ?_)
        go_simp
        obtain ⟨wa1, hwa1⟩ : ∃ W, W = World.alloc (W0) (.cells #[.int .i64 T.kind, .int .i64 T.num, .string T.name, .slice A' T.args.length c'] 24) := ⟨_, rfl⟩
        have hk1 : Kept (FK (.slice A1 kn.length c1) (.slice A2 kn.length c2)) W0 wa1 := by rw [hwa1]; exact Kept.alloc hk0 _
        have hp1 : wa1.heap[W0.heap.size]? = some (.cells #[.int .i64 T.kind, .int .i64 T.num, .string T.name, .slice A' T.args.length c'] 24 (0, 0)) := by rw [hwa1]; exact heap_alloc_new _ _
        have hown1_1 : wa1.ownsRow B 3 1 (.slice A1 kn.length c1) kn.length (ints (kn.map (·.1))) := by rw [hwa1]; exact World.ownsRow.alloc ho1 _
        have hown2_1 : wa1.ownsRow B 24 4 (.slice A2 kn.length c2) kn.length (us.flatMap flatC) := by rw [hwa1]; exact World.ownsRow.alloc ho2 _
        have hsz1 : W0.heap.size < wa1.heap.size := by rw [hwa1]; simp
        have HSa1 := Lib.hid (HSK.out wa1 hk1)
        rw [← hwa1]
        clear hwa1
        refine hK _ _ ⟨HSa1.out, ?_⟩
        clear hK K
        try simp only [List.setIfInBounds_toArray, List.set_cons_zero, List.set_cons_succ]
        have hkb_wa1 : W0.heap.size ≤ wa1.heap.size := hk1.size
        refine wpAnyH_all (rs := [3]) (by kernel_rfl) (by simp) ?_
        intro i hi
        simp only [List.mem_cons, List.not_mem_nil, or_false] at hi
        subst hi
        refine wpOp_of rfl rfl (fun K hK => ?_)
        go_simp
        obtain ⟨wa2, hwa2⟩ : ∃ W, W = World.alloc (wa1) (.cells #[.int .i64 G.num] 3) := ⟨_, rfl⟩
        have hk2 : Kept (FK (.slice A1 kn.length c1) (.slice A2 kn.length c2)) W0 wa2 := by rw [hwa2]; exact Kept.alloc hk1 _
        have hp2 : wa2.heap[wa1.heap.size]? = some (.cells #[.int .i64 G.num] 3 (0, 0)) := by rw [hwa2]; exact heap_alloc_new _ _
        have hown1_2 : wa2.ownsRow B 3 1 (.slice A1 kn.length c1) kn.length (ints (kn.map (·.1))) := by rw [hwa2]; exact World.ownsRow.alloc hown1_1 _
        have hown2_2 : wa2.ownsRow B 24 4 (.slice A2 kn.length c2) kn.length (us.flatMap flatC) := by rw [hwa2]; exact World.ownsRow.alloc hown2_1 _
        have hz2_2 : wa2.heap[W0.heap.size]? = some (.cells #[.int .i64 T.kind, .int .i64 T.num, .string T.name, .slice A' T.args.length c'] 24 (0, 0)) := by rw [hwa2]; exact (Below.heap_alloc _ _ _ (lt_blk hp1)).trans hp1
        have hsz2 : wa1.heap.size < wa2.heap.size := by rw [hwa2]; simp
        have HSa2 := Lib.hid (HSK.out wa2 hk2)
        rw [← hwa2]
        clear hwa2
        refine hK _ _ ⟨HSa2.out, ?_⟩
        clear hK K
        try simp only [List.setIfInBounds_toArray, List.set_cons_zero, List.set_cons_succ]
        have hkb_wa2 : W0.heap.size ≤ wa2.heap.size := hk2.size
        refine wpAnyH_all (rs := [4]) (by kernel_rfl) (by simp) ?_
        intro i hi
        simp only [List.mem_cons, List.not_mem_nil, or_false] at hi
        subst hi
        refine wpOp_of rfl rfl (fun K hK => ?_)
        refine wp_appKS _ (.tmp 38) (.tmp 41) 40 rfl B 3 1 intK _ kn.length _ rfl hown1_2 ⟨wa1.heap.size, 0, none⟩ 1 1 [.int .i64 G.num] rfl rfl (cells_at hp2) (by intro u hu; rw [List.mem_singleton.1 hu]; rfl) (by omega) (hk2.size |> Nat.le_trans hBW) (fun v3 w3 hw3 hg3 hat3 => ?_)
        have hk3 : Kept (FK (.slice A1 kn.length c1) (.slice A2 kn.length c2)) W0 w3 := hk2.grown hg3 (fun k e => .inl (.inl e))
        have hown2_3 : w3.ownsRow B 24 4 (.slice A2 kn.length c2) kn.length (us.flatMap flatC) := ownsRow_block hown2_2 fun g e => hg3.block g (hown2_2.lt g e).2 (fun e' => hne g e'.symm e)
        have hz2_3 : w3.heap[W0.heap.size]? = some (.cells #[.int .i64 T.kind, .int .i64 T.num, .string T.name, .slice A' T.args.length c'] 24 (0, 0)) := (hg3.block _ (lt_blk hz2_2) (fun e' => by have := (ho1.lt _ e'.symm).2; have := hk2.size; omega)).trans hz2_2
        have HSa3 := Lib.hid (HSK.out w3 hk3)
        refine hK _ _ ⟨HSa3.out, ?_⟩
        clear hK K
        try simp only [List.setIfInBounds_toArray, List.set_cons_zero, List.set_cons_succ]
        have hkb_w3 : W0.heap.size ≤ w3.heap.size := hk3.size
        refine wpAnyH_all (rs := [8]) (by kernel_rfl) (by simp) ?_
        intro i hi
        simp only [List.mem_cons, List.not_mem_nil, or_false] at hi
        subst hi
        refine wpOp_of rfl rfl (fun K hK => ?_)
        refine wp_appKS _ (.tmp 43) (.tmp 45) 22 rfl B 24 4 tyE _ kn.length _ rfl hown2_3 ⟨W0.heap.size, 0, none⟩ 1 1 [.int .i64 T.kind, .int .i64 T.num, .string T.name, .slice A' T.args.length c'] rfl rfl (cells_at hz2_3) (one4 _ _ _ _ _ _) (by omega) (hk3.size |> Nat.le_trans hBW) (fun v4 w4 hw4 hg4 hat4 => ?_)
        have hk4 : Kept (FK (.slice A1 kn.length c1) (.slice A2 kn.length c2)) W0 w4 := hk3.grown hg4 (fun k e => .inl (.inr e))
        have hfin1 : w4.ownsRow B 3 1 v3 (kn.length + 1) (ints (kn.map (·.1)) ++ [.int .i64 G.num]) := ownsRow_block hw3 fun g e => hg4.block g (hw3.lt g e).2 (fun e' => by
          rcases hat3 with e1 | e1
          · exact hne g (e1.symm.trans e) e'.symm
          · have e2 := (ho2.lt g e'.symm).2; rw [e1] at e; injection e with e; have := hkb_wa2; omega)
        have HSa4 := Lib.hid (HSK.out w4 hk4)
        refine hK _ _ ⟨HSa4.out, ?_⟩
        clear hK K
        try simp only [List.setIfInBounds_toArray, List.set_cons_zero, List.set_cons_succ]
        have hkb_w4 : W0.heap.size ≤ w4.heap.size := hk4.size
        refine takeD (i := 9) (s := 8) (v := v3) rfl rfl (by kernel_rfl) (by kernel_rfl) (by kernel_rfl) (fun _ _ _ h => h) (Or.inl ⟨by rfl, fun w' hS => by obtain ⟨s0, s1, s2, s3, s4⟩ := hS; go_simp⟩) HSa4.out ?_
        try simp only [List.setIfInBounds_toArray, List.set_cons_zero, List.set_cons_succ]
        refine takeD (i := 10) (s := 9) (v := v4) rfl rfl (by kernel_rfl) (by kernel_rfl) (by kernel_rfl) (fun _ _ _ h => h) (Or.inl ⟨by rfl, fun w' hS => by obtain ⟨s0, s1, s2, s3, s4⟩ := hS; go_simp⟩) HSa4.out ?_
        try simp only [List.setIfInBounds_toArray, List.set_cons_zero, List.set_cons_succ]
        refine takeD (i := 11) (s := 10) (v := .bool true) rfl rfl (by kernel_rfl) (by kernel_rfl) (by kernel_rfl) (fun _ _ _ h => h) (Or.inl ⟨by rfl, fun w' hS => by obtain ⟨s0, s1, s2, s3, s4⟩ := hS; go_simp⟩) HSa4.out ?_
        try simp only [List.setIfInBounds_toArray, List.set_cons_zero, List.set_cons_succ]
        refine wpAnyH_done (by kernel_rfl) ?_ _
        have hlt1 := hkb_wa2
        have hlt2 := hkb_w3
        have hne2 : ∀ g, v3.ownBlock = some g → v4.ownBlock ≠ some g := fun g e e' => by
          rcases hat3 with e1 | e1
          · rcases hat4 with e2 | e2
            · exact hne g (e1.symm.trans e) (e2.symm.trans e')
            · rw [e2] at e'; injection e' with e'; have := (ho1.lt g (e1.symm.trans e)).2; omega
          · rcases hat4 with e2 | e2
            · rw [e1] at e; injection e with e; have := (ho2.lt g (e2.symm.trans e')).2; omega
            · have hx := (hw3.lt g e).2; rw [e2] at e'; injection e' with e'; omega
        have HE : Hid (MPost B G T kn (.slice A1 kn.length c1) (.slice A2 kn.length c2) w (.returned (.tuple #[v3, v4, .bool true])) w4) := Lib.hid (mpost HST.out (HK2.out.push (u := tyV T.kind T.num T.name A' T.args.length c') hBW hk4 (fun g hf => (HK2.out.low hf).1) HT2.out hfin1 hw4 hne2)
          (HKW.out.trans' (F := FK (.slice A1 kn.length c1) (.slice A2 kn.length c2)) hk4)
          (fun g e => by rcases hat3 with e1 | e1; exact .inl (e1.symm.trans e); rw [e1] at e; injection e with e; right; have := HZW.out; omega)
          (fun g e => by rcases hat4 with e1 | e1; exact .inl (e1.symm.trans e); rw [e1] at e; injection e with e; right; have := HZW.out; omega))
        go_wp2
        go_ret3
        rw [HPO.out]
        exact HE.out
end Go.Proofs.YtbhicpjhijondaaDoor
