/- types.alike at clean memory. -/
import Derived.Test.YtbhicpjhijondaaDoorT40
import Derived.BigRegion
namespace Go.Typ
open Go.RowKit Go.Lib Go.Vfs Go.Par
/-- an entry of alike's map: two rows of types, that are the same unless it is still asked. -/
def Ent (S : Nat → Prop) (O : Ty → Ty → Prop) (W : World) (x : Rk) : Prop :=
  ∃ T U k num name c k' num' name' c', TyAt S W (tyV k num name (some ⟨x.b, x.o, none⟩) x.n c) T ∧ TyAt S W (tyV k' num' name' (some ⟨x.b', x.o', none⟩) x.n c') U ∧ 0 < x.n ∧ (T.args = U.args ∨ O T U)
def KSeen (S : Nat → Prop) (O : Ty → Ty → Prop) (W : World) (m : Nat) : Prop := ∃ xs, MapR W m xs ∧ ∀ x ∈ xs, Ent S O W x
section
variable {S : Nat → Prop} {O O' : Ty → Ty → Prop} {W W' : World} {m : Nat} {x : Rk}
theorem Ent.keep (h : Ent S O W x) (hk : ∀ g, S g → W'.heap[g]? = W.heap[g]?) : Ent S O W' x := by
  obtain ⟨T, U, k, num, name, c, k', num', name', c', h1, h2, h3⟩ := h
  exact ⟨T, U, k, num, name, c, k', num', name', c', h1.keep fun g hg => ⟨hg, hk g hg⟩, h2.keep fun g hg => ⟨hg, hk g hg⟩, h3⟩
theorem Ent.mono (h : Ent S O W x) (hO : ∀ T U, O T U → T.args = U.args ∨ O' T U) : Ent S O' W x := by
  obtain ⟨T, U, k, num, name, c, k', num', name', c', h1, h2, h3, h4⟩ := h
  exact ⟨T, U, k, num, name, c, k', num', name', c', h1, h2, h3, h4.elim .inl (hO T U)⟩
theorem KSeen.keep (h : KSeen S O W m) (hp : W'.heap[m]? = W.heap[m]?) (hk : ∀ g, S g → W'.heap[g]? = W.heap[g]?) : KSeen S O W' m := by
  obtain ⟨xs, h1, h2⟩ := h
  exact ⟨xs, h1.keep hp, fun x hx => (h2 x hx).keep hk⟩
theorem KSeen.mono (h : KSeen S O W m) (hO : ∀ T U, O T U → T.args = U.args ∨ O' T U) : KSeen S O' W m := by
  obtain ⟨xs, h1, h2⟩ := h
  exact ⟨xs, h1, fun x hx => (h2 x hx).mono hO⟩
theorem KSeen.lt (h : KSeen S O W m) : m < W.heap.size := by obtain ⟨xs, h1, _⟩ := h; exact h1.lt
theorem TyAt.addr {S : Nat → Prop} {W : World} {k num : Int} {name : ByteArray} {b o n c : Nat} {T : Ty} (h : TyAt S W (tyV k num name (some ⟨b, o, none⟩) n c) T) (hn : 0 < n) : S b := by
  obtain ⟨_, _, _, e, _⟩ := h.tail
  obtain ⟨b', off, A', c', eA, hb, _⟩ := h.arg (i := 0) (by omega)
  injection eA with eA
  injection eA with eb eo
  subst eb
  exact hb
theorem Ent.clean (h : Ent S O W x) (hS : ∀ g, S g → CleanB W g) : x.clean W := by
  obtain ⟨T, U, k, num, name, c, k', num', name', c', h1, h2, h3, h4⟩ := h
  exact ⟨hS _ (h1.addr h3), hS _ (h2.addr h3)⟩
/-- rows that were seen, and are not asked any more, are the same. -/
theorem Ent.same (h : Ent S O W x) {T U : Ty} {k num k' num' : Int} {name name' : ByteArray} {c c' : Nat} (h1 : TyAt S W (tyV k num name (some ⟨x.b, x.o, none⟩) x.n c) T) (h2 : TyAt S W (tyV k' num' name' (some ⟨x.b', x.o', none⟩) x.n c') U)
    (hO : ∀ T' U', O T' U' → T.parts < T'.parts) : T.args = U.args := by
  obtain ⟨T', U', _, _, _, _, _, _, _, _, g1, g2, g3, g4⟩ := h
  have e1 := h1.same_row g1 rfl
  have e2 := h2.same_row g2 rfl
  rcases g4 with g4 | g4
  · rw [e1, e2, g4]
  · have := hO _ _ g4
    rw [T.parts_eq, T'.parts_eq, e1] at this
    omega
end
theorem put3 {w : World} {b : Nat} {u0 u1 u2 v0 v1 v2 : Value} {t : TypeId} (h : w.heap[b]? = some (.cells #[u0, u1, u2] t (0, 0))) :
    (((w.setCell ⟨b, 0, none⟩ v0).setCell ⟨b, 1, none⟩ v1).setCell ⟨b, 2, none⟩ v2).heap[b]? = some (.cells #[v0, v1, v2] t (0, 0)) := by
  have := cells_put (cells_put (cells_put h 0 v0) 1 v1) 2 v2
  simpa using this
theorem kept3 {F : Nat → Prop} {w0 w : World} {b : Nat} {v0 v1 v2 : Value} (h : Kept F w0 w) (hp : F b ∨ w0.heap.size ≤ b) :
    Kept F w0 (((w.setCell ⟨b, 0, none⟩ v0).setCell ⟨b, 1, none⟩ v1).setCell ⟨b, 2, none⟩ v2) :=
  ((h.setCell (p := ⟨b, 0, none⟩) hp v0).setCell (p := ⟨b, 1, none⟩) hp v1).setCell (p := ⟨b, 2, none⟩) hp v2
theorem box3 {W : World} {b : Nat} {v0 v1 v2 : Value} {t : TypeId} (h : W.heap[b]? = some (.cells #[v0, v1, v2] t (0, 0))) :
    (W.cell? ⟨b, 0, none⟩ = some v0 ∧ W.cell? ⟨b, 1, none⟩ = some v1 ∧ W.cell? ⟨b, 2, none⟩ = some v2) := by
  simp [World.cell?, h]
theorem box3_frozen {W : World} {b : Nat} {v0 v1 v2 : Value} {t : TypeId} (h : W.heap[b]? = some (.cells #[v0, v1, v2] t (0, 0))) :
    (W.frozen? ⟨b, 0, none⟩ = false ∧ W.frozen? ⟨b, 1, none⟩ = false ∧ W.frozen? ⟨b, 2, none⟩ = false) := by
  simp [World.frozen?, h]
end Go.Typ
namespace Go.Proofs.YtbhicpjhijondaaDoor
open Go.RowKit Go.Lib Go.Vfs Go.Par Go.Typ Go.Shelf
set_option linter.unusedVariables false
set_option linter.unusedSimpArgs false

set_option maxRecDepth 20000 in
set_option maxHeartbeats 4000000 in
theorem alike_any (n₀ m : Nat) (W0 : World) (S : Nat → Prop) (hS : ∀ g, S g → g < n₀ ∧ CleanB W0 g) (hm : n₀ ≤ m) (T : Ty) :
    ∀ (U : Ty) (O : Ty → Ty → Prop) (v u : Value) (w : World), Below n₀ W0 w → TyAt S w v T → TyAt S w u U → KSeen S O w m → (∀ T' U', O T' U' → T.parts < T'.parts) →
      Calls Tryd.prog 55 #[v, u, .map (some m)] w fun e w' => e = .returned (.bool (same T U)) ∧ Kept (· = m) w w' ∧ (same T U = true → KSeen S O w' m) := by
  induction T using Ty.ind with
  | h T ih =>
    intro U O v u w hB hT hU hK hO
    have IH := Lib.hid ih
    clear ih
    by_cases hleaf : T.args = []
    · refine (alike_leaf T U hleaf S v u _ w hT hU).mono fun e w' ⟨h1, h2⟩ => ⟨h1, Kept.of_below h2, fun _ => ?_⟩
      exact hK.keep (h2.block _ hK.lt) fun g hg => h2.block g (by have := (hS g hg).1; have := hK.lt; omega)
    obtain ⟨A, c, rfl, hc, hmx, hn⟩ := hT.form
    obtain ⟨A', c', rfl, hc', hmx', hn'⟩ := hU.form
    have hl0 : 0 < T.args.length := by
      cases h : T.args with
      | nil => exact absurd h hleaf
      | cons a l => simp
    have hpl := hK.lt
    obtain ⟨W1, hW1⟩ : ∃ W1, W1 = (w.alloc (.cells #[.int .i64 T.kind, .int .i64 T.num, .string T.name, .slice A T.args.length c] 24)).alloc (.cells #[.int .i64 U.kind, .int .i64 U.num, .string U.name, .slice A' U.args.length c'] 24) := ⟨_, rfl⟩
    have hb1 : Below w.heap.size w W1 := by rw [hW1]; exact ((Below.refl _ _).alloc (Nat.le_refl _) _).alloc (by simp) _
    have hbg : W1.heap[w.heap.size]? = some (.cells #[.int .i64 T.kind, .int .i64 T.num, .string T.name, .slice A T.args.length c] 24 (0, 0)) := by
      rw [hW1, Below.heap_alloc _ _ _ (by simp)]
      exact heap_alloc_new _ _
    have hbt : W1.heap[w.heap.size + 1]? = some (.cells #[.int .i64 U.kind, .int .i64 U.num, .string U.name, .slice A' U.args.length c'] 24 (0, 0)) := by
      rw [hW1]
      have := heap_alloc_new (w.alloc (.cells #[.int .i64 T.kind, .int .i64 T.num, .string T.name, .slice A T.args.length c] 24)) (.cells #[.int .i64 U.kind, .int .i64 U.num, .string U.name, .slice A' U.args.length c'] 24)
      simpa using this
    have hz1 : W1.heap.size = w.heap.size + 2 := by rw [hW1]; simp
    have hT1 := hT.keep (S' := S) (W' := W1) fun g hg => ⟨hg, hb1.block g (by have := (hS g hg).1; omega)⟩
    have hU1 := hU.keep (S' := S) (W' := W1) fun g hg => ⟨hg, hb1.block g (by have := (hS g hg).1; omega)⟩
    have hK1 := hK.keep (W' := W1) (hb1.block m hpl) fun g hg => hb1.block g (by have := (hS g hg).1; omega)
    have hB1 : Below n₀ W0 W1 := hB.trans (hb1.mono (by omega))
    have HB1 := Lib.hid hb1; have HT1 := Lib.hid hT1; have HU1 := Lib.hid hU1; have HK1 := Lib.hid hK1; have HN1 := Lib.hid hB1; have HBG := Lib.hid hbg; have HBT := Lib.hid hbt; have HZ1 := Lib.hid hz1; have HO := Lib.hid hO; have HLF := Lib.hid hleaf
    have hla : T.args.length ≤ 9223372036854775807 := by simp only [maxLen] at hmx; omega
    have hla' : U.args.length ≤ 9223372036854775807 := by simp only [maxLen] at hmx'; omega
    clear hT hU hK hB hb1 hT1 hU1 hK1 hB1 hc hmx hn hc' hmx' hn' hO hleaf
    obtain ⟨y0, y1, y2, y3⟩ := box4 hbg
    obtain ⟨z0, z1, z2, z3⟩ := box4 hbt
    rw [hW1] at y0 y1 y2 y3 z0 z1 z2 z3
    clear hbg hbt hz1
    unfold tyV
    by_cases e1 : T.kind = U.kind
    · by_cases e2 : T.num = U.num
      · by_cases e3 : T.name = U.name
        · by_cases e4 : T.args.length = U.args.length
          · obtain ⟨b, off, A2, c2, rfl, hSb, -⟩ := HT1.out.arg (i := 0) (by omega)
            obtain ⟨b', off', A2', c2', rfl, hSb', -⟩ := HU1.out.arg (i := 0) (by omega)
            have h1 : (T.kind != U.kind) = false := by simp [e1]
            have h2 : (T.num != U.num) = false := by simp [e2]
            have h3 : (T.name.toList == U.name.toList) = true := (beqS _ _).2 e3
            have h4 : ((T.args.length : Int) != (U.args.length : Int)) = false := by simp [e4]
            have h5 : ((T.args.length : Int) == 0) = false := by simp; exact HLF.out
            have E4 := Lib.hid e4; have HL0 := Lib.hid hl0
            have HEQ : Hid (T.args = U.args → same T U = true) := Lib.hid fun h => same_true (Ty.ext' e1 e2 e3 h)
            obtain ⟨W3, hW3⟩ : ∃ W3, W3 = (W1.alloc (.cells #[.pointer (some ⟨b, off, none⟩), .pointer (some ⟨b', off', none⟩), .int .i64 T.args.length] 109)).drew := ⟨_, rfl⟩
            have hb3 : Below W1.heap.size W1 W3 := by rw [hW3]; exact ((Below.refl _ _).alloc (Nat.le_refl _) _).drew
            have hrk : W3.heap[w.heap.size + 1 + 1]? = some (.cells #[.pointer (some ⟨b, off, none⟩), .pointer (some ⟨b', off', none⟩), .int .i64 T.args.length] 109 (0, 0)) := by
              rw [hW3]
              have := heap_alloc_new W1 (.cells #[.pointer (some ⟨b, off, none⟩), .pointer (some ⟨b', off', none⟩), .int .i64 T.args.length] 109)
              rw [HZ1.out] at this
              exact this
            have hT3 := HT1.out.keep (S' := S) (W' := W3) fun g hg => ⟨hg, hb3.block g (by have := (hS g hg).1; have := HZ1.out; omega)⟩
            have hU3 := HU1.out.keep (S' := S) (W' := W3) fun g hg => ⟨hg, hb3.block g (by have := (hS g hg).1; have := HZ1.out; omega)⟩
            have hK3 := HK1.out.keep (W' := W3) (hb3.block m HK1.out.lt) fun g hg => hb3.block g (by have := (hS g hg).1; have := HZ1.out; omega)
            have hN3 : Below n₀ W0 W3 := HN1.out.trans (hb3.mono (by have := HZ1.out; omega))
            have hcl : ∀ g, S g → CleanB W3 g := fun g hg => (hS g hg).2.keep (hN3.block g (hS g hg).1)
            obtain ⟨xs, hm3, hx3⟩ := hK3
            obtain ⟨x, hx⟩ : ∃ x : Rk, x = ⟨b, off, b', off', T.args.length⟩ := ⟨_, rfl⟩
            have hxc : x.clean W3 := by rw [hx]; exact ⟨hcl _ hSb, hcl _ hSb'⟩
            have hxs : ∀ y ∈ xs, y.clean W3 := fun y hy => (hx3 y hy).clean hcl
            have hcmp := eql_addr W3 (a := ⟨b, off, none⟩) (b := ⟨b', off', none⟩) (hcl _ hSb) (hcl _ hSb')
            have hlook := look_R hm3 hxc hxs
            have HK13 : Hid (Kept (· = m) w W3) := Lib.hid ((Kept.of_below HB1.out).trans' (Kept.of_below hb3))
            have HW3 := Lib.hid hW3
            obtain ⟨r0, r1, r2⟩ := box3 hrk
            obtain ⟨t0, t1, t2, t3⟩ := box4 ((hb3.block _ (by have := HZ1.out; omega)).trans HBG.out)
            have HRK := Lib.hid hrk; have HT3 := Lib.hid hT3; have HU3 := Lib.hid hU3; have HM3 := Lib.hid hm3; have HX3 := Lib.hid hx3; have HXC := Lib.hid hxc; have HXS := Lib.hid hxs; have HN3 := Lib.hid hN3; have HB3 := Lib.hid hb3; have HCL := Lib.hid hcl
            rw [hx] at hlook
            simp only [Rk.val] at hlook
            have hl0' : 0 < U.args.length := by omega
            clear e1 e2 e3 e4 hSb hSb' hb3 hrk hT3 hU3 hm3 hx3 hxc hxs hN3 hcl hW3
            go_enter Tryd.func55, Tryd.ntmps55
            go_wp2_with fail
            go_region
            rw [← hW1, ← HW3.out]
            clear hW1 y0 y1 y2 y3 z0 z1 z2 z3 h1 h2 h3 h4 h5
            by_cases ha : (⟨b, off, none⟩ : Addr) = ⟨b', off', none⟩
            · have HR : Hid (same T U = true) := Lib.hid (HEQ.out (by
                have h2 := HU3.out
                rw [← ha, ← E4.out] at h2
                exact HT3.out.same_row h2 rfl))
              rw [decide_eq_true ha] at hcmp
              clear ha hlook
              go_wp2
              go_ret
              rw [HR.out]
              exact ⟨rfl, HK13.out, fun _ => ⟨xs, HM3.out, HX3.out⟩⟩
            · rw [decide_eq_false ha] at hcmp
              by_cases hin : (⟨b, off, b', off', T.args.length⟩ : Rk) ∈ xs
              · rw [if_pos hin] at hlook
                have HR : Hid (same T U = true) := Lib.hid (HEQ.out (by
                  have h2 := HU3.out
                  rw [← E4.out] at h2
                  exact (HX3.out _ hin).same HT3.out h2 HO.out))
                clear ha hin
                go_wp2
                go_ret
                rw [HR.out]
                exact ⟨rfl, HK13.out, fun _ => ⟨xs, HM3.out, HX3.out⟩⟩
              · rw [if_neg hin] at hlook
                obtain ⟨W4, hput, hm4, hk4⟩ := put_R HM3.out HXC.out HXS.out (by rw [hx]; exact hin)
                have HP4 : Hid (KSeen S (fun T' U' => O T' U' ∨ (T'.args = T.args ∧ U'.args = U.args)) W4 m) := Lib.hid (by
                  refine ⟨_, hm4, fun y hy => ?_⟩
                  have hke : ∀ g, S g → W4.heap[g]? = W3.heap[g]? := fun g hg => hk4.block g (by have := (hS g hg).1; have := HM3.out.lt; omega) (by have := (hS g hg).1; omega)
                  rcases List.mem_append.1 hy with hy | hy
                  · exact ((HX3.out y hy).mono fun T' U' h => .inr (.inl h)).keep hke
                  · rw [List.mem_singleton.1 hy, hx]
                    have h1 := HT3.out.keep (S' := S) (W' := W4) fun g hg => ⟨hg, hke g hg⟩
                    have h2 := HU3.out.keep (S' := S) (W' := W4) fun g hg => ⟨hg, hke g hg⟩
                    rw [← E4.out] at h2
                    exact ⟨T, U, _, _, _, _, _, _, _, _, h1, h2, HL0.out, .inr (.inr ⟨rfl, rfl⟩)⟩)
                have HK34 : Hid (Kept (· = m) W3 W4) := Lib.hid hk4
                have HZ3 : Hid (w.heap.size + 3 ≤ W3.heap.size) := Lib.hid (by have := lt_blk HRK.out; omega)
                have HML : Hid (m < w.heap.size) := Lib.hid hpl
                have s3 : W4.cell? ⟨w.heap.size, 3, none⟩ = some (.slice (some ⟨b, off, none⟩) T.args.length c) := by
                  rw [World.cell?_of_block (w := W3) (a := ⟨w.heap.size, 3, none⟩) (hk4.block w.heap.size (by have := lt_blk HRK.out; omega) (by omega))]
                  exact t3
                rw [hx] at hput
                simp only [Rk.val] at hput
                clear ha hin hm4 hk4 hx hpl
                go_wp2
                clear r0 r1 r2 t0 t1 t2 t3 hput hcmp hlook s3
                go_loopw [67] (fun iv W => ∃ (k : Nat), k ≤ T.args.length ∧ iv = .int .i64 k ∧ Hid (T.args.take k = U.args.take k) ∧ Hid (Kept (· = m) W3 W) ∧ Hid (KSeen S (fun T' U' => O T' U' ∨ (T'.args = T.args ∧ U'.args = U.args)) W m)) (fun iv _ => T.args.length - (RowKit.intOf iv).toNat)
                case atStart => exact ⟨0, by omega, rfl, Lib.hid (by simp), HK34, HP4⟩
                case round =>
                  obtain ⟨k, hk, rfl, HA, HKR, HKN⟩ := hrel
                  by_cases hlt : k < T.args.length
                  · have hlt' : k < U.args.length := by have := E4.out; omega
                    have hml := HML.out
                    have hz3 := HZ3.out
                    have hzr := HKR.out.size
                    have hTr := HT3.out.keep (S' := S) (W' := wr) fun g hg => ⟨hg, HKR.out.block g (by have := (hS g hg).1; omega) (by have := (hS g hg).1; omega)⟩
                    have hUr := HU3.out.keep (S' := S) (W' := wr) fun g hg => ⟨hg, HKR.out.block g (by have := (hS g hg).1; omega) (by have := (hS g hg).1; omega)⟩
                    obtain ⟨bb, oo, A2, c2, eA, hb, ht, x0, x1, x2, x3⟩ := hTr.arg hlt
                    obtain ⟨bb', oo', A2', c2', eA', hb', ht', x0', x1', x2', x3'⟩ := hUr.arg hlt'
                    injection eA with eA
                    injection eA with eb eo
                    injection eA' with eA'
                    injection eA' with eb' eo'
                    subst eb eo eb' eo'
                    have hgb : ∀ g, g < W3.heap.size → g ≠ m → wr.heap[g]? = W3.heap[g]? := fun g h1 h2 => HKR.out.block g h1 h2
                    obtain ⟨y0, y1, y2, y3⟩ := box4 (((hgb w.heap.size (by omega) (by omega)).trans (HB3.out.block _ (by have := HZ1.out; omega))).trans HBG.out)
                    obtain ⟨z0, z1, z2, z3⟩ := box4 (((hgb (w.heap.size + 1) (by omega) (by omega)).trans (HB3.out.block _ (by have := HZ1.out; omega))).trans HBT.out)
                    have hih := fun U' O' v u w => IH.out k hlt U' O' v u w
                    have HOS : Hid (∀ T' U', (O T' U' ∨ (T'.args = T.args ∧ U'.args = U.args)) → (T.args[k]).parts < T'.parts) := Lib.hid fun T' U' h => by
                      have h0 := Ty.parts_arg hlt
                      rcases h with h | h
                      · have := HO.out _ _ h; omega
                      · have e1 := T'.parts_eq; have e2 := T.parts_eq; rw [h.1] at e1; omega
                    have HNE : Hid (¬ T.args[k] = U.args[k] → same T U = false) := Lib.hid fun h => same_false fun e => h (by subst e; rfl)
                    have HTK : Hid (T.args[k] = U.args[k] → T.args.take (k + 1) = U.args.take (k + 1)) := Lib.hid fun h => by rw [List.take_succ_eq_append_getElem hlt, List.take_succ_eq_append_getElem hlt', HA.out, h]
                    have hbn : ∀ W2, Kept (· = m) W3 W2 → Below n₀ W0 W2 := fun W2 h => HN3.out.trans (below_of_kept h hm (by omega))
                    generalize T.args[k] = X at *
                    generalize U.args[k] = Y at *
                    have hca := hih Y _ _ _ wr.drew (hbn _ (HKR.out.trans' (Kept.of_below ((Below.refl wr.heap.size _).drew)))) (ht.keep fun g hg => ⟨hg, rfl⟩) (ht'.keep fun g hg => ⟨hg, rfl⟩) (HKN.out.keep rfl fun g hg => rfl) HOS.out
                    have HSK : Hid (∀ W', Kept (· = m) wr W' → W'.cell? ⟨w.heap.size, 3, none⟩ = some (.slice (some ⟨b, off, none⟩) T.args.length c) ∧ W'.cell? ⟨w.heap.size + 1, 3, none⟩ = some (.slice (some ⟨b', off', none⟩) U.args.length c') ∧
                        W'.cell? ⟨b, off + k * 4, none⟩ = some (.int .i64 X.kind) ∧ W'.cell? ⟨b, off + k * 4 + 1, none⟩ = some (.int .i64 X.num) ∧ W'.cell? ⟨b, off + k * 4 + 2, none⟩ = some (.string X.name) ∧ W'.cell? ⟨b, off + k * 4 + 3, none⟩ = some (.slice A2 X.args.length c2) ∧
                        W'.cell? ⟨b', off' + k * 4, none⟩ = some (.int .i64 Y.kind) ∧ W'.cell? ⟨b', off' + k * 4 + 1, none⟩ = some (.int .i64 Y.num) ∧ W'.cell? ⟨b', off' + k * 4 + 2, none⟩ = some (.string Y.name) ∧ W'.cell? ⟨b', off' + k * 4 + 3, none⟩ = some (.slice A2' Y.args.length c2')) := Lib.hid fun W' h => by
                      have n1 := (hS b hb).1
                      have n2 := (hS b' hb').1
                      have q1 := fun o => World.cell?_of_block (w := wr) (w' := W') (a := ⟨w.heap.size, o, none⟩) (h.block w.heap.size (by omega) (by omega))
                      have q2 := fun o => World.cell?_of_block (w := wr) (w' := W') (a := ⟨w.heap.size + 1, o, none⟩) (h.block (w.heap.size + 1) (by omega) (by omega))
                      have q3 := fun o => World.cell?_of_block (w := wr) (w' := W') (a := ⟨b, o, none⟩) (h.block b (by omega) (by omega))
                      have q4 := fun o => World.cell?_of_block (w := wr) (w' := W') (a := ⟨b', o, none⟩) (h.block b' (by omega) (by omega))
                      rw [q1, q2, q3, q3, q3, q3, q4, q4, q4, q4]
                      exact ⟨y3, z3, x0, x1, x2, x3, x0', x1', x2', x3'⟩
                    have HBW : Hid (Kept (· = m) wr wr.drew) := Lib.hid (Kept.of_below ((Below.refl wr.heap.size _).drew))
                    unfold tyV at hca
                    obtain ⟨q, hq⟩ : ∃ q, q = same X Y := ⟨_, rfl⟩
                    rw [← hq] at hca
                    have HQ := Lib.hid hq
                    have HCA := Lib.hid hca
                    clear hca hih ht ht' hTr hUr y0 y1 y2 z0 z1 z2 hgb hbn hq hml hz3 hzr hb hb'
                    go_wp2_with fail
                    go_region_held (fun W' => W'.cell? ⟨w.heap.size, 3, none⟩ = some (.slice (some ⟨b, off, none⟩) T.args.length c) ∧ W'.cell? ⟨w.heap.size + 1, 3, none⟩ = some (.slice (some ⟨b', off', none⟩) U.args.length c') ∧
                        W'.cell? ⟨b, off + k * 4, none⟩ = some (.int .i64 X.kind) ∧ W'.cell? ⟨b, off + k * 4 + 1, none⟩ = some (.int .i64 X.num) ∧ W'.cell? ⟨b, off + k * 4 + 2, none⟩ = some (.string X.name) ∧ W'.cell? ⟨b, off + k * 4 + 3, none⟩ = some (.slice A2 X.args.length c2) ∧
                        W'.cell? ⟨b', off' + k * 4, none⟩ = some (.int .i64 Y.kind) ∧ W'.cell? ⟨b', off' + k * 4 + 1, none⟩ = some (.int .i64 Y.num) ∧ W'.cell? ⟨b', off' + k * 4 + 2, none⟩ = some (.string Y.name) ∧ W'.cell? ⟨b', off' + k * 4 + 3, none⟩ = some (.slice A2' Y.args.length c2'))
                        (first | exact HSK.out _ HBW.out | exact HSK.out _ (by assumption)) ((go_at_call 55; refine HCA.out.mono ?_; rintro e w3 ⟨rfl, HK3, HM4⟩; have HK4 := HBW.out.trans' HK3))
                    cases q
                    · have HR : Hid (same T U = false) := Lib.hid (HNE.out fun e => by have h := HQ.out; rw [same_true e] at h; cases h)
                      go_wp2
                      go_ret
                      rw [HR.out]
                      exact ⟨rfl, (HK13.out.trans' HKR.out).trans' HK4, fun h => by cases h⟩
                    · have HX := same_iff.1 HQ.out.symm
                      have HM5 := Lib.hid (HM4 rfl)
                      clear HM4
                      go_wp2
                      go_roundw
                      case rel => exact ⟨k + 1, by omega, by go_num, Lib.hid (HTK.out HX), Lib.hid (HKR.out.trans' HK4), HM5⟩
                      case measure => simp [RowKit.intOf]; omega
                  · have hkl : k = T.args.length := by omega
                    have hte : T.args = U.args := by
                      have h := HA.out
                      rw [hkl, List.take_length] at h
                      rw [h, E4.out, List.take_length]
                    have HTE := Lib.hid hte
                    have HR : Hid (same T U = true) := Lib.hid (HEQ.out hte)
                    clear hte
                    go_wp2
                    go_ret
                    rw [HR.out]
                    refine ⟨rfl, HK13.out.trans' HKR.out, fun _ => HKN.out.mono fun T' U' h => ?_⟩
                    rcases h with h | h
                    · exact .inr h
                    · exact .inl (by rw [h.1, h.2, HTE.out])
          · have HR : Hid (same T U = false) := Lib.hid (same_false fun e => e4 (by rw [e]))
            have h1 : (T.kind != U.kind) = false := by simp [e1]
            have h2 : (T.num != U.num) = false := by simp [e2]
            have h3 : (T.name.toList == U.name.toList) = true := (beqS _ _).2 e3
            have h4 : ((T.args.length : Int) != (U.args.length : Int)) = true := by simp; omega
            clear e1 e2 e3 e4
            go_enter Tryd.func55, Tryd.ntmps55
            go_wp2
            go_ret
            rw [HR.out, ← hW1]
            exact ⟨rfl, Kept.of_below HB1.out, fun h => by cases h⟩
        · have HR : Hid (same T U = false) := Lib.hid (same_false fun e => e3 (by rw [e]))
          have h1 : (T.kind != U.kind) = false := by simp [e1]
          have h2 : (T.num != U.num) = false := by simp [e2]
          have h3 : (T.name.toList == U.name.toList) = false := beqS_ne e3
          clear e1 e2 e3
          go_enter Tryd.func55, Tryd.ntmps55
          go_wp2
          go_ret
          rw [HR.out, ← hW1]
          exact ⟨rfl, Kept.of_below HB1.out, fun h => by cases h⟩
      · have HR : Hid (same T U = false) := Lib.hid (same_false fun e => e2 (by rw [e]))
        have h1 : (T.kind != U.kind) = false := by simp [e1]
        have h2 : (T.num != U.num) = true := by simp [e2]
        clear e1 e2
        go_enter Tryd.func55, Tryd.ntmps55
        go_wp2
        go_ret
        rw [HR.out, ← hW1]
        exact ⟨rfl, Kept.of_below HB1.out, fun h => by cases h⟩
    · have HR : Hid (same T U = false) := Lib.hid (same_false fun e => e1 (by rw [e]))
      have h1 : (T.kind != U.kind) = true := by simp [e1]
      clear e1
      go_enter Tryd.func55, Tryd.ntmps55
      go_wp2
      go_ret
      rw [HR.out, ← hW1]
      exact ⟨rfl, Kept.of_below HB1.out, fun h => by cases h⟩
end Go.Proofs.YtbhicpjhijondaaDoor
