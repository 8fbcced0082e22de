/- types.stands: is a type general with types in the places of its variables? -/
import Derived.Test.YtbhicpjhijondaaDoorT31
namespace Go.Typ
open Go.RowKit Go.Lib Go.Vfs Go.Par
mutual
/-- is T the type G with types in the places of its variables, of which some are known? -/
noncomputable def standsT : Ty → Ty → List (Int × Ty) → Bool × List (Int × Ty)
  | .mk k n s gs, T, kn => if k = 1 then (match kn.lookup n with | some U => (same U T, kn) | none => (true, kn ++ [(n, T)]))
      else if k = T.kind ∧ s = T.name ∧ gs.length = T.args.length then standsL gs T.args kn else (false, kn)
noncomputable def standsL : List Ty → List Ty → List (Int × Ty) → Bool × List (Int × Ty)
  | [], _, kn => (true, kn)
  | _ :: _, [], kn => (false, kn)
  | g :: gs, t :: ts, kn => if (standsT g t kn).1 = true then standsL gs ts (standsT g t kn).2 else (false, (standsT g t kn).2)
end
mutual
/-- each type that stands where a variable stands is as asked. -/
def meetsT (Q : Int → Ty → Prop) : Ty → Ty → Prop
  | .mk k n _ gs, T => if k = 1 then Q n T else meetsL Q gs T.args
def meetsL (Q : Int → Ty → Prop) : List Ty → List Ty → Prop
  | [], _ => True
  | _ :: _, [] => True
  | g :: gs, t :: ts => meetsT Q g t ∧ meetsL Q gs ts
end
theorem standsT_eq (G T : Ty) (kn : List (Int × Ty)) : standsT G T kn = if G.kind = 1 then (match kn.lookup G.num with | some U => (same U T, kn) | none => (true, kn ++ [(G.num, T)]))
      else if G.kind = T.kind ∧ G.name = T.name ∧ G.args.length = T.args.length then standsL G.args T.args kn else (false, kn) := by cases G; rw [standsT]; rfl
theorem meetsT_eq (Q : Int → Ty → Prop) (G T : Ty) : meetsT Q G T = if G.kind = 1 then Q G.num T else meetsL Q G.args T.args := by cases G; rw [meetsT]; rfl
theorem standsL_step {gs ts : List Ty} {k : Nat} (h : k < gs.length) (h' : k < ts.length) (kn : List (Int × Ty)) :
    standsL (gs.drop k) (ts.drop k) kn = if (standsT gs[k] ts[k] kn).1 = true then standsL (gs.drop (k + 1)) (ts.drop (k + 1)) (standsT gs[k] ts[k] kn).2 else (false, (standsT gs[k] ts[k] kn).2) := by
  rw [List.drop_eq_getElem_cons h, List.drop_eq_getElem_cons h', standsL]
theorem standsL_end {gs ts : List Ty} {k : Nat} (h : gs.length ≤ k) (kn : List (Int × Ty)) : standsL (gs.drop k) (ts.drop k) kn = (true, kn) := by
  rw [List.drop_eq_nil_of_le h, standsL]
theorem meetsL_step {Q : Int → Ty → Prop} {gs ts : List Ty} {k : Nat} (h : k < gs.length) (h' : k < ts.length) (hm : meetsL Q (gs.drop k) (ts.drop k)) : meetsT Q gs[k] ts[k] ∧ meetsL Q (gs.drop (k + 1)) (ts.drop (k + 1)) := by
  rw [List.drop_eq_getElem_cons h, List.drop_eq_getElem_cons h', meetsL] at hm
  exact hm
/-- entries of a map, and the types that they are. -/
inductive KV (R : Int → Value → Ty → Prop) : List (Int × Value) → List (Int × Ty) → Prop
  | nil : KV R [] []
  | cons (n : Int) (v : Value) (T : Ty) (xs : List (Int × Value)) (ys : List (Int × Ty)) : R n v T → KV R xs ys → KV R ((n, v) :: xs) ((n, T) :: ys)
theorem KV.mono {R R' : Int → Value → Ty → Prop} {xs : List (Int × Value)} {ys : List (Int × Ty)} (h : KV R xs ys) (hR : ∀ n v T, R n v T → R' n v T) : KV R' xs ys := by
  induction h with
  | nil => exact .nil
  | cons n v T xs ys h _ ih => exact .cons n v T xs ys (hR _ _ _ h) ih
theorem KV.snoc {R : Int → Value → Ty → Prop} {xs : List (Int × Value)} {ys : List (Int × Ty)} (h : KV R xs ys) {n : Int} {v : Value} {T : Ty} (hn : R n v T) : KV R (xs ++ [(n, v)]) (ys ++ [(n, T)]) := by
  induction h with
  | nil => exact .cons _ _ _ _ _ hn .nil
  | cons m u U xs ys h _ ih => exact .cons _ _ _ _ _ h ih
theorem KV.miss {R : Int → Value → Ty → Prop} {xs : List (Int × Value)} {ys : List (Int × Ty)} (h : KV R xs ys) {n : Int} (hl : ys.lookup n = none) : xs.lookup n = none := by
  induction h with
  | nil => rfl
  | cons m u U xs ys h _ ih =>
    by_cases e : n = m
    · subst e; simp at hl
    · have hb : (n == m) = false := by simpa using e
      simp only [List.lookup_cons, hb] at hl ⊢
      exact ih hl
theorem KV.hit {R : Int → Value → Ty → Prop} {xs : List (Int × Value)} {ys : List (Int × Ty)} (h : KV R xs ys) {n : Int} {T : Ty} (hl : ys.lookup n = some T) : ∃ v, xs.lookup n = some v ∧ R n v T := by
  induction h with
  | nil => cases hl
  | cons m u U xs ys h _ ih =>
    by_cases e : n = m
    · subst e
      simp only [List.lookup_cons, beq_self_eq_true] at hl ⊢
      injection hl with hl
      subst hl
      exact ⟨u, rfl, h⟩
    · have hb : (n == m) = false := by simpa using e
      simp only [List.lookup_cons, hb] at hl ⊢
      exact ih hl
/-- the map in block p knows these types. -/
def KMap (S : Nat → Prop) (Q : Int → Ty → Prop) (W : World) (p : Nat) (kn : List (Int × Ty)) : Prop := ∃ kvs, MapI W p kvs ∧ KV (fun n v T => TyAt S W v T ∧ Q n T) kvs kn
theorem KMap.lt {S : Nat → Prop} {Q : Int → Ty → Prop} {W : World} {p : Nat} {kn : List (Int × Ty)} (h : KMap S Q W p kn) : p < W.heap.size := by obtain ⟨_, h, _⟩ := h; exact h.lt
theorem KMap.keep {S : Nat → Prop} {Q : Int → Ty → Prop} {W W' : World} {p : Nat} {kn : List (Int × Ty)} (h : KMap S Q W p kn) (hp : W'.heap[p]? = W.heap[p]?) (hS : ∀ g, S g → W'.heap[g]? = W.heap[g]?) : KMap S Q W' p kn := by
  obtain ⟨kvs, h1, h2⟩ := h
  exact ⟨kvs, h1.keep hp, h2.mono fun n v T h => ⟨h.1.keep fun g hg => ⟨hg, hS g hg⟩, h.2⟩⟩
end Go.Typ
namespace Go.Proofs.YtbhicpjhijondaaDoor
open Go.RowKit Go.Lib Go.Vfs Go.Par Go.Typ Go.Shelf
set_option linter.unusedVariables false
set_option linter.unusedSimpArgs false

theorem put_K {S : Nat → Prop} {Q : Int → Ty → Prop} {W : World} {p : Nat} {kn : List (Int × Ty)} (h : KMap S Q W p kn) (hS : ∀ g, S g → g < p) (n : Int) (v : Value) (T : Ty) (hv : TyAt S W v T) (hq : Q n T) (hl : kn.lookup n = none) :
    ∃ W', (Instr.mapUpdate 65 (.map (some p)) (.int .i64 n) v).run Tryd.prog W = .ok () W' ∧ KMap S Q W' p (kn ++ [(n, T)]) ∧ Kept (· = p) W W' := by
  obtain ⟨kvs, h1, h2⟩ := h
  obtain ⟨W', hr, hm, hk⟩ := put_T h1 n v (h2.miss hl)
  refine ⟨W', hr, ⟨_, hm, ?_⟩, hk⟩
  have hlt := h1.lt
  have hke : ∀ g, S g → W'.heap[g]? = W.heap[g]? := fun g hg => hk.block g (by have := hS g hg; omega) (by have := hS g hg; omega)
  exact (h2.mono fun n v T h => ⟨h.1.keep fun g hg => ⟨hg, hke g hg⟩, h.2⟩).snoc ⟨hv.keep fun g hg => ⟨hg, hke g hg⟩, hq⟩

set_option maxRecDepth 20000 in
set_option maxHeartbeats 2000000 in
theorem stands_any (n₀ p : Nat) (W0 : World) (S : Nat → Prop) (Q : Int → Ty → Prop) (hS : ∀ g, S g → g < n₀) (hp : n₀ ≤ p)
    (HS : ∀ n U U' v v' W, Below n₀ W0 W → n₀ ≤ W.heap.size → Q n U → Q n U' → TyAt S W v U → TyAt S W v' U' → Calls Tryd.prog 20 #[v, v'] W fun e W' => e = .returned (.bool (same U U')) ∧ Below W.heap.size W W') (G : Ty) :
    ∀ (T : Ty) (kn : List (Int × Ty)) (v u : Value) (w : World), Below n₀ W0 w → TyAt (· < n₀) w v G → TyAt S w u T → KMap S Q w p kn → meetsT Q G T →
      Calls Tryd.prog 53 #[v, u, .map (some p)] w fun e w' => e = .returned (.bool (standsT G T kn).1) ∧ Kept (· = p) w w' ∧ ((standsT G T kn).1 = true → KMap S Q w' p (standsT G T kn).2) := by
  induction G using Ty.ind with
  | h G ih =>
    intro T kn v u w hB hG hT hK hQ
    have IH := Lib.hid ih
    clear ih
    obtain ⟨A, c, rfl, hc, hm, hn⟩ := hG.form
    obtain ⟨A', c', rfl, hc', hm', hn'⟩ := hT.form
    have hpl := hK.lt
    obtain ⟨W1, hW1⟩ : ∃ W1, W1 = (w.alloc (.cells #[.int .i64 G.kind, .int .i64 G.num, .string G.name, .slice A G.args.length c] 24)).alloc (.cells #[.int .i64 T.kind, .int .i64 T.num, .string T.name, .slice A' T.args.length c'] 24) := ⟨_, rfl⟩
    have hb1 : Below w.heap.size w W1 := by rw [hW1]; exact ((Below.refl _ _).alloc (Nat.le_refl _) _).alloc (by simp) _
    have hbg : W1.heap[w.heap.size]? = some (.cells #[.int .i64 G.kind, .int .i64 G.num, .string G.name, .slice A G.args.length c] 24 (0, 0)) := by
      rw [hW1, Below.heap_alloc _ _ _ (by simp)]
      exact heap_alloc_new _ _
    have hbt : W1.heap[w.heap.size + 1]? = some (.cells #[.int .i64 T.kind, .int .i64 T.num, .string T.name, .slice A' T.args.length c'] 24 (0, 0)) := by
      rw [hW1]
      have := heap_alloc_new (w.alloc (.cells #[.int .i64 G.kind, .int .i64 G.num, .string G.name, .slice A G.args.length c] 24)) (.cells #[.int .i64 T.kind, .int .i64 T.num, .string T.name, .slice A' T.args.length c'] 24)
      simpa using this
    have hk1 : Kept (· = p) w W1 := Kept.of_below hb1
    have hn0 : n₀ ≤ w.heap.size := by omega
    have hG1 := hG.keep (S' := (· < n₀)) (W' := W1) fun g hg => ⟨hg, hb1.block g (by omega)⟩
    have hT1 := hT.keep (S' := S) (W' := W1) fun g hg => ⟨hg, hb1.block g (by have := hS g hg; omega)⟩
    have hK1 := hK.keep (W' := W1) (hb1.block p hpl) fun g hg => hb1.block g (by have := hS g hg; omega)
    have hB1 : Below n₀ W0 W1 := hB.trans (hb1.mono hn0)
    have HG1 := Lib.hid hG1; have HT1 := Lib.hid hT1; have HK1 := Lib.hid hK1; have HB1 := Lib.hid hB1; have HBG := Lib.hid hbg; have HBT := Lib.hid hbt; have HKW := Lib.hid hk1; have HQ := Lib.hid hQ; have HSM := Lib.hid HS; have HZ1 := Lib.hid hb1.size
    have hla : G.args.length ≤ 9223372036854775807 := by simp only [maxLen] at hm; omega
    have hla' : T.args.length ≤ 9223372036854775807 := by simp only [maxLen] at hm'; omega
    clear hG hT hK hB hb1 hk1 hG1 hT1 hK1 hB1 hQ HS hc hm hn hc' hm' hn' hbg hbt
    unfold tyV
    by_cases k1 : G.kind = 1
    · have HQ1 : Hid (Q G.num T) := Lib.hid (by have h := HQ.out; rw [meetsT_eq, if_pos k1] at h; exact h)
      have hse : standsT G T kn = (match kn.lookup G.num with | some U => (same U T, kn) | none => (true, kn ++ [(G.num, T)])) := by rw [standsT_eq, if_pos k1]
      rw [k1] at hW1 HBG
      rw [k1]
      clear k1 IH HQ
      obtain ⟨y0, y1, y2, y3⟩ := box4 HBG.out
      obtain ⟨z0, z1, z2, z3⟩ := box4 HBT.out
      obtain ⟨kvs, hm1, hkv⟩ := HK1.out
      cases hl : kn.lookup G.num with
      | none =>
        have HR : Hid (standsT G T kn = (true, kn ++ [(G.num, T)])) := Lib.hid (by rw [hse, hl])
        have hlook := look_T hm1 G.num
        rw [hkv.miss hl] at hlook
        simp only at hlook
        obtain ⟨W2, hW2⟩ : ∃ W2, W2 = W1.alloc zero4 := ⟨_, rfl⟩
        have hb2 : Below W1.heap.size W1 W2 := by rw [hW2]; exact (Below.refl _ _).alloc (Nat.le_refl _) _
        have hpl1 := HK1.out.lt
        have hK2 := HK1.out.keep (W' := W2) (hb2.block p hpl1) fun g hg => hb2.block g (by have := hS g hg; omega)
        have hT2 := HT1.out.keep (S' := S) (W' := W2) fun g hg => ⟨hg, hb2.block g (by have := hS g hg; omega)⟩
        obtain ⟨W3, hrun, hK3, hk3⟩ := put_K hK2 (fun g hg => by have := hS g hg; omega) G.num _ T hT2 HQ1.out hl
        have HK3 := Lib.hid hK3
        have HKF := Lib.hid ((HKW.out.trans' (Kept.of_below hb2)).trans' hk3)
        obtain ⟨t0, t1, t2, t3⟩ := box4 ((hb2.block _ (lt_blk HBG.out)).trans HBG.out)
        obtain ⟨u0, u1, u2, u3⟩ := box4 ((hb2.block _ (lt_blk HBT.out)).trans HBT.out)
        unfold tyV at hrun
        unfold zero4 at hW2
        rw [hW2] at hrun t0 t1 t2 t3 u0 u1 u2 u3
        rw [hW1] at hlook hrun t0 t1 t2 t3 u0 u1 u2 u3 y0 y1 y2 y3 z0 z1 z2 z3
        clear hl hse hm1 hkv hK2 hT2 hK3 hk3 hW2 hW1 hb2
        go_enter Tryd.func53, Tryd.ntmps53
        go_wp2
        go_ret
        rw [HR.out]
        exact ⟨rfl, HKF.out, fun _ => HK3.out⟩
      | some U =>
        have HR : Hid (standsT G T kn = (same U T, kn)) := Lib.hid (by rw [hse, hl])
        have hlook := look_T hm1 G.num
        obtain ⟨v, hv, hvU, hvQ⟩ := hkv.hit hl
        rw [hv] at hlook
        simp only at hlook
        obtain ⟨A2, c2, rfl, -, -, -⟩ := hvU.form
        obtain ⟨W2, hW2⟩ : ∃ W2, W2 = W1.alloc (.cells #[.int .i64 U.kind, .int .i64 U.num, .string U.name, .slice A2 U.args.length c2] 24) := ⟨_, rfl⟩
        have hb2 : Below W1.heap.size W1 W2 := by rw [hW2]; exact (Below.refl _ _).alloc (Nat.le_refl _) _
        have hpl1 := HK1.out.lt
        have HK2 := Lib.hid (HK1.out.keep (W' := W2) (hb2.block p hpl1) fun g hg => hb2.block g (by have := hS g hg; omega))
        have hT2 := HT1.out.keep (S' := S) (W' := W2) fun g hg => ⟨hg, hb2.block g (by have := hS g hg; omega)⟩
        have hU2 := hvU.keep (S' := S) (W' := W2) fun g hg => ⟨hg, hb2.block g (by have := hS g hg; omega)⟩
        have hsz2 := hb2.size
        have hSA := HSM.out G.num U T _ _ W2 (HB1.out.trans (hb2.mono (by omega))) (by omega) hvQ HQ1.out hU2 hT2
        unfold tyV at hSA hlook
        have HSA := Lib.hid hSA
        have HKF := Lib.hid (HKW.out.trans' (Kept.of_below hb2))
        obtain ⟨u0, u1, u2, u3⟩ := box4 ((hb2.block _ (lt_blk HBT.out)).trans HBT.out)
        obtain ⟨x0, x1, x2, x3⟩ := box4 (show W2.heap[W1.heap.size]? = some (.cells #[.int .i64 U.kind, .int .i64 U.num, .string U.name, .slice A2 U.args.length c2] 24 (0, 0)) by rw [hW2]; exact heap_alloc_new _ _)
        rw [show W1.heap.size = w.heap.size + 1 + 1 by rw [hW1]; simp] at x0 x1 x2 x3
        have hW2' := hW2
        rw [hW1] at hW2'
        rw [hW2'] at u0 u1 u2 u3 x0 x1 x2 x3
        rw [hW1] at hlook y0 y1 y2 y3 z0 z1 z2 z3
        clear hl hse hm1 hkv hT2 hU2 hW2 hW1 hb2 hv hvU hvQ hSA
        go_enter Tryd.func53, Tryd.ntmps53
        go_wp2_with fail
        rw [← hW2']
        clear hW2' hlook y0 y1 y2 y3 z0 z1 z2 z3 u0 u1 u2 u3 x0 x1 x2 x3
        refine HSA.out.mono ?_
        rintro e w3 ⟨rfl, hb3⟩
        have HB3 := Lib.hid hb3
        clear hb3
        go_wp2
        go_ret
        rw [HR.out]
        refine ⟨rfl, HKF.out.trans' (Kept.of_below HB3.out), fun _ => HK2.out.keep (HB3.out.block p HK2.out.lt) fun g hg => HB3.out.block g (by have := hS g hg; have := HK2.out.lt; omega)⟩
    · have hse : standsT G T kn = if G.kind = T.kind ∧ G.name = T.name ∧ G.args.length = T.args.length then standsL G.args T.args kn else (false, kn) := by rw [standsT_eq, if_neg k1]
      have HQ1 : Hid (meetsL Q G.args T.args) := Lib.hid (by have h := HQ.out; rw [meetsT_eq, if_neg k1] at h; exact h)
      have hg1 : (G.kind == 1) = false := by simp [k1]
      clear HQ
      by_cases e1 : G.kind = T.kind
      · by_cases e3 : G.name = T.name
        · by_cases e4 : G.args.length = T.args.length
          · have HR : Hid (standsT G T kn = standsL G.args T.args kn) := Lib.hid (by rw [hse, if_pos ⟨e1, e3, e4⟩])
            have h1 : (G.kind != T.kind) = false := by simp [e1]
            have h3 : (G.name.toList == T.name.toList) = true := (beqS _ _).2 e3
            have h4 : ((G.args.length : Int) != (T.args.length : Int)) = false := by simp [e4]
            have E4 := Lib.hid e4
            obtain ⟨y0, y1, y2, y3⟩ := box4 HBG.out
            obtain ⟨z0, z1, z2, z3⟩ := box4 HBT.out
            rw [hW1] at y0 y1 y2 y3 z0 z1 z2 z3
            clear hse e1 e3 e4 k1
            go_enter Tryd.func53, Tryd.ntmps53
            go_wp2
            rw [← hW1]
            have hws : W1.heap.size = w.heap.size + 2 := by rw [hW1]; simp
            clear y0 y1 y2 y3 z0 z1 z2 z3 hW1 h1 h3 h4 hg1
            go_loopw [53] (fun iv W => ∃ (k : Nat) (kn' : List (Int × Ty)), k ≤ G.args.length ∧ iv = .int .i64 k ∧ Hid (KMap S Q W p kn') ∧ Hid (Kept (· = p) W1 W) ∧ Hid (standsL (G.args.drop k) (T.args.drop k) kn' = standsL G.args T.args kn) ∧ Hid (meetsL Q (G.args.drop k) (T.args.drop k))) (fun iv _ => G.args.length - (RowKit.intOf iv).toNat)
            case atStart => exact ⟨0, kn, by omega, rfl, HK1, Lib.hid (Kept.refl _ _), Lib.hid rfl, Lib.hid HQ1.out⟩
            case round =>
              obtain ⟨k, kn', hk, rfl, HKN, HKR, HST, HME⟩ := hrel
              by_cases hlt : k < G.args.length
              · have hlt' : k < T.args.length := by have := E4.out; omega
                have hpw := HKN.out.lt
                have hsz := HKR.out.size
                have hGr := HG1.out.keep (S' := (· < n₀)) (W' := wr) fun g hg => ⟨hg, HKR.out.block g (by omega) (by omega)⟩
                have hTr := HT1.out.keep (S' := S) (W' := wr) fun g hg => ⟨hg, HKR.out.block g (by have := hS g hg; omega) (by have := hS g hg; omega)⟩
                obtain ⟨b, off, A2, c2, rfl, hb, ht, x0, x1, x2, x3⟩ := hGr.arg hlt
                obtain ⟨b', off', A2', c2', rfl, hb', ht', x0', x1', x2', x3'⟩ := hTr.arg hlt'
                have hb'' := hS b' hb'
                obtain ⟨z0, z1, z2, z3⟩ := box4 ((HKR.out.block _ (by omega) (by omega)).trans HBT.out)
                have hstep := standsL_step hlt hlt' kn'
                have hmeet := meetsL_step hlt hlt' HME.out
                have hih := fun kn v u w => IH.out k hlt T.args[k] kn v u w
                generalize G.args[k] = X at *
                generalize T.args[k] = Y at *
                obtain ⟨W2, hW2⟩ : ∃ W2, W2 = wr.alloc (.cells #[.int .i64 X.kind, .int .i64 X.num, .string X.name, .slice A2 X.args.length c2] 24) := ⟨_, rfl⟩
                have hb2 : Below wr.heap.size wr W2 := by rw [hW2]; exact (Below.refl _ _).alloc (Nat.le_refl _) _
                have hbx2 : W2.heap[wr.heap.size]? = some (.cells #[.int .i64 X.kind, .int .i64 X.num, .string X.name, .slice A2 X.args.length c2] 24 (0, 0)) := by rw [hW2]; exact heap_alloc_new _ _
                have hca := hih kn' _ _ W2.drew (((HB1.out.trans (below_of_kept HKR.out hp (by omega))).trans (hb2.mono (by omega))).trans (Below.refl _ _).drew) (ht.keep fun g hg => ⟨hg, hb2.block g (by omega)⟩) (ht'.keep fun g hg => ⟨hg, hb2.block g (by have := hS g hg; omega)⟩)
                  (HKN.out.keep (hb2.block p hpw) fun g hg => hb2.block g (by have := hS g hg; omega)) hmeet.1
                obtain ⟨v0, v1, v2, v3⟩ := box4 hbx2
                have hwrb := lt_blk hbx2
                have HSK : Hid (∀ W', Kept (· = p) W2 W' → W'.cell? ⟨wr.heap.size, 0, none⟩ = some (.int .i64 X.kind) ∧ W'.cell? ⟨wr.heap.size, 1, none⟩ = some (.int .i64 X.num) ∧ W'.cell? ⟨wr.heap.size, 2, none⟩ = some (.string X.name) ∧ W'.cell? ⟨wr.heap.size, 3, none⟩ = some (.slice A2 X.args.length c2) ∧
                    W'.cell? ⟨w.heap.size + 1, 3, none⟩ = some (.slice (some ⟨b', off', none⟩) T.args.length c') ∧
                    W'.cell? ⟨b', off' + k * 4, none⟩ = some (.int .i64 Y.kind) ∧ W'.cell? ⟨b', off' + k * 4 + 1, none⟩ = some (.int .i64 Y.num) ∧ W'.cell? ⟨b', off' + k * 4 + 2, none⟩ = some (.string Y.name) ∧ W'.cell? ⟨b', off' + k * 4 + 3, none⟩ = some (.slice A2' Y.args.length c2')) := Lib.hid fun W' h => by
                  have hs2 := hb2.size
                  have q1 := fun o => World.cell?_of_block (w := W2) (w' := W') (a := ⟨wr.heap.size, o, none⟩) (h.block _ hwrb (by show ¬ wr.heap.size = p; omega))
                  have q2 := fun o => World.cell?_of_block (w := wr) (w' := W') (a := ⟨w.heap.size + 1, o, none⟩) ((h.block (w.heap.size + 1) (by omega) (by omega)).trans (hb2.block (w.heap.size + 1) (by omega)))
                  have q3 := fun o => World.cell?_of_block (w := wr) (w' := W') (a := ⟨b', o, none⟩) ((h.block b' (by omega) (by omega)).trans (hb2.block b' (by omega)))
                  rw [q1, q1, q1, q1, q2, q3, q3, q3, q3]
                  exact ⟨v0, v1, v2, v3, z3, x0', x1', x2', x3'⟩
                have HBW : Hid (Kept (· = p) W2 W2.drew) := Lib.hid (Kept.of_below ((Below.refl W2.heap.size _).drew))
                unfold tyV at hca
                obtain ⟨q, hq⟩ : ∃ q, q = (standsT X Y kn').1 := ⟨_, rfl⟩
                rw [← hq] at hca hstep
                have HCA := Lib.hid hca; have HSTEP := Lib.hid hstep; have HMT := Lib.hid hmeet.2; have HB2 := Lib.hid hb2
                clear hca hstep hmeet hih ht ht' hGr hTr hq v0 v1 v2 v3 hbx2 hb2 z0 z1 z2 z3 x0' x1' x2' x3' HK1 HQ1 HG1 HT1
                go_wp2_with fail
                rw [← hW2]
                clear hW2
                go_region_held (fun W' => W'.cell? ⟨wr.heap.size, 0, none⟩ = some (.int .i64 X.kind) ∧ W'.cell? ⟨wr.heap.size, 1, none⟩ = some (.int .i64 X.num) ∧ W'.cell? ⟨wr.heap.size, 2, none⟩ = some (.string X.name) ∧ W'.cell? ⟨wr.heap.size, 3, none⟩ = some (.slice A2 X.args.length c2) ∧
                    W'.cell? ⟨w.heap.size + 1, 3, none⟩ = some (.slice (some ⟨b', off', none⟩) T.args.length c') ∧
                    W'.cell? ⟨b', off' + k * 4, none⟩ = some (.int .i64 Y.kind) ∧ W'.cell? ⟨b', off' + k * 4 + 1, none⟩ = some (.int .i64 Y.num) ∧ W'.cell? ⟨b', off' + k * 4 + 2, none⟩ = some (.string Y.name) ∧ W'.cell? ⟨b', off' + k * 4 + 3, none⟩ = some (.slice A2' Y.args.length c2'))
                    (first | exact HSK.out _ HBW.out | exact HSK.out _ (by assumption)) ((go_at_call 53; refine HCA.out.mono ?_; rintro e w3 ⟨rfl, HK3, HM3⟩; have HK4 := HBW.out.trans' HK3))
                cases q
                · have HE : Hid (standsL G.args T.args kn = (false, (standsT X Y kn').2)) := Lib.hid (by rw [← HST.out, HSTEP.out]; rfl)
                  go_wp2
                  go_ret
                  rw [HR.out, HE.out]
                  exact ⟨rfl, (HKW.out.trans' HKR.out).trans' ((Kept.of_below HB2.out).trans' HK4), fun h => by cases h⟩
                · have HKN2 := Lib.hid (HM3 rfl)
                  clear HM3
                  go_wp2
                  go_roundw
                  case rel => exact ⟨k + 1, _, by omega, by go_num, HKN2, Lib.hid (HKR.out.trans' ((Kept.of_below HB2.out).trans' HK4)), Lib.hid (by rw [← HST.out, HSTEP.out]; rfl), HMT⟩
                  case measure => simp [RowKit.intOf]; omega
              · have hkl : k = G.args.length := by omega
                have HE : Hid (standsL G.args T.args kn = (true, kn')) := Lib.hid (by rw [← HST.out]; exact standsL_end (by omega) _)
                go_wp2
                go_ret
                rw [HR.out, HE.out]
                exact ⟨rfl, HKW.out.trans' HKR.out, fun _ => HKN.out⟩
          · have HR : Hid (standsT G T kn = (false, kn)) := Lib.hid (by rw [hse, if_neg (fun h => e4 h.2.2)])
            have h1 : (G.kind != T.kind) = false := by simp [e1]
            have h3 : (G.name.toList == T.name.toList) = true := (beqS _ _).2 e3
            have h4 : ((G.args.length : Int) != (T.args.length : Int)) = true := by simp; omega
            obtain ⟨y0, y1, y2, y3⟩ := box4 HBG.out
            obtain ⟨z0, z1, z2, z3⟩ := box4 HBT.out
            rw [hW1] at y0 y1 y2 y3 z0 z1 z2 z3
            clear hse e1 e3 e4 k1
            go_enter Tryd.func53, Tryd.ntmps53
            go_wp2
            go_ret
            rw [HR.out, ← hW1]
            exact ⟨rfl, HKW.out, fun h => by cases h⟩
        · have HR : Hid (standsT G T kn = (false, kn)) := Lib.hid (by rw [hse, if_neg (fun h => e3 h.2.1)])
          have h1 : (G.kind != T.kind) = false := by simp [e1]
          have h3 : (G.name.toList == T.name.toList) = false := beqS_ne e3
          obtain ⟨y0, y1, y2, y3⟩ := box4 HBG.out
          obtain ⟨z0, z1, z2, z3⟩ := box4 HBT.out
          rw [hW1] at y0 y1 y2 y3 z0 z1 z2 z3
          clear hse e1 e3 k1
          go_enter Tryd.func53, Tryd.ntmps53
          go_wp2
          go_ret
          rw [HR.out, ← hW1]
          exact ⟨rfl, HKW.out, fun h => by cases h⟩
      · have HR : Hid (standsT G T kn = (false, kn)) := Lib.hid (by rw [hse, if_neg (fun h => e1 h.1)])
        have h1 : (G.kind != T.kind) = true := by simp [e1]
        obtain ⟨y0, y1, y2, y3⟩ := box4 HBG.out
        obtain ⟨z0, z1, z2, z3⟩ := box4 HBT.out
        rw [hW1] at y0 y1 y2 y3 z0 z1 z2 z3
        clear hse e1 k1
        go_enter Tryd.func53, Tryd.ntmps53
        go_wp2
        go_ret
        rw [HR.out, ← hW1]
        exact ⟨rfl, HKW.out, fun h => by cases h⟩
end Go.Proofs.YtbhicpjhijondaaDoor
