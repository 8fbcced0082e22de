/- The reference's journal: Lay. -/
import Derived.Test.YtpdelgjfamelfaaGreatK10
import Derived.Test.YtpdelgjfamelfaaGreatJ16
namespace Go.Proofs.YtpdelgjfamelfaaGreat
open Go.RowKit Go.Lib Go.Vfs Go.Par Go.Shelf
set_option linter.unusedVariables false
set_option linter.unusedSimpArgs false

/-- a call more, where all went well. -/
def stp (b : List UInt8) (i : Nat) (R : St × Int) : St × Int := if R.2 = 0 then stepSt b i R.1 else R
theorem stp_ok {b : List UInt8} {i : Nat} {T : St} : stp b i (T, 0) = stepSt b i T := by unfold stp; rw [if_pos rfl]
theorem stp_no {b : List UInt8} {i : Nat} {T : St} {e : Int} (h : e ≠ 0) : stp b i (T, e) = (T, e) := by unfold stp; rw [if_neg h]
theorem lay_chain (b : List UInt8) (hl : Bool) (st : St) : laySteps b (stepsOf hl) st = (if (stp b 2 (stp b 1 (stepSt b 0 st))).2 = 0 ∧ hl = true then stepSt b 3 (stp b 2 (stp b 1 (stepSt b 0 st))).1 else stp b 2 (stp b 1 (stepSt b 0 st))) := by
  by_cases h0 : (stepSt b 0 st).2 = 0
  · have e0 : stp b 1 (stepSt b 0 st) = stepSt b 1 (stepSt b 0 st).1 := by unfold stp; rw [if_pos h0]
    rw [e0]
    by_cases h1 : (stepSt b 1 (stepSt b 0 st).1).2 = 0
    · have e1 : stp b 2 (stepSt b 1 (stepSt b 0 st).1) = stepSt b 2 (stepSt b 1 (stepSt b 0 st).1).1 := by unfold stp; rw [if_pos h1]
      rw [e1]
      by_cases h2 : (stepSt b 2 (stepSt b 1 (stepSt b 0 st).1).1).2 = 0
      · cases hl
        · simp only [stepsOf, laySteps, h0, h1, h2, if_true, if_pos, Bool.false_eq_true, if_false, and_false, reduceIte]
          exact Prod.ext rfl h2.symm
        · simp only [stepsOf, laySteps, h0, h1, h2, if_true, if_pos, and_self, reduceIte]
          by_cases h3 : (stepSt b 3 (stepSt b 2 (stepSt b 1 (stepSt b 0 st).1).1).1).2 = 0
          · rw [if_pos h3]; exact Prod.ext rfl h3.symm
          · rw [if_neg h3]
      · cases hl <;> simp [stepsOf, laySteps, h0, h1, h2]
    · have e1 : stp b 2 (stepSt b 1 (stepSt b 0 st).1) = stepSt b 1 (stepSt b 0 st).1 := by unfold stp; rw [if_neg h1]
      rw [e1]
      cases hl <;> simp [stepsOf, laySteps, h0, h1]
  · have e0 : stp b 1 (stepSt b 0 st) = stepSt b 0 st := by unfold stp; rw [if_neg h0]
    have e1 : stp b 2 (stepSt b 0 st) = stepSt b 0 st := by unfold stp; rw [if_neg h0]
    rw [e0, e1]
    cases hl <;> simp [stepsOf, laySteps, h0]
theorem stp_calm {b : List UInt8} {i : Nat} {R : St × Int} {k d : Nat} (h : Calm R.1.files k d) : Calm (stp b i R).1.files (k + 1) (d + b.length) := by
  unfold stp; split
  · exact step_calm h i
  · exact h.mono (by omega) (by omega)
theorem stp_power {b : List UInt8} {i : Nat} {R : St × Int} (h : R.1.power ≤ 9223372036854775807) : (stp b i R).1.power ≤ 9223372036854775807 := by
  unfold stp; split
  · exact step_power h i
  · exact h
theorem stp_has {b : List UInt8} {i : Nat} {R : St × Int} : hasF (stp b i R).1.files nLog = hasF R.1.files nLog := by
  unfold stp; split
  · exact step_has i
  · rfl
section
variable {S : Nat → Prop} {w W W' : World} {T T' : St} {pw g : Int} {v bv rv u u' : Value} {X : Nat}
theorem TmpI.lt (h : TmpI S w T pw g v bv rv X u W) (hS : ∀ b, S b → b < w.heap.size) : ∀ b, MidX S w X W b → b < W.heap.size := fun b hb => mid_lt hS h.j5.size b hb.1
theorem TmpI.go (h : TmpI S w T pw g v bv rv X u W) (hS : ∀ b, S b → b < w.heap.size) (hb : Below W.heap.size W W') : TmpI S w T pw g v bv rv X u W' := by
  have hx := lt_of_block h.box
  have g1 := mid_go hS h.j5.size (Kept.of_below (F := fun _ => False) hb) (fun k hk => hk.elim)
  exact ⟨(hb.block _ hx).trans h.box, h.j5.go hb, h.ref.keep fun b hb2 => ⟨⟨(g1 b hb2.1).1, hb2.2⟩, (g1 b hb2.1).2⟩, h.lo⟩
/-- behind a call whose answer is stored in the box. -/
theorem TmpI.next (h : TmpI S w T pw g v bv rv X u W) (hS : ∀ b, S b → b < w.heap.size) (hb : Below W.heap.size W W') (hr : RefS (New (MidX S w X W) W W') W' u' T'.files) : TmpI S w T' pw g v bv rv X u' ((W'.setCell ⟨X, 0, none⟩ (.int .i64 T'.power)).setCell ⟨X, 1, none⟩ u') := by
  have hx := lt_of_block h.box
  have hz := h.j5.size
  have hbs := hb.size
  have hX : W'.heap[X]? = some (.cells #[.int .i64 T.power, u] 28 (0, 0)) := (hb.block _ hx).trans h.box
  have hK := Pair.kept W' X (.int .i64 T'.power) u'
  have hks := hK.size
  refine ⟨two_setCell (two_setCell0 hX), (h.j5.go hb).far (n := X) h.lo (hK.below (by omega) (fun k hk => by omega)), hr.keep fun b hb2 => ?_, h.lo⟩
  have hne : b ≠ X := by
    rcases hb2 with hb2 | hb2
    · exact hb2.2
    · omega
  have hlt : b < W'.heap.size := by
    rcases hb2 with hb2 | hb2
    · have := mid_lt hS hz b hb2.1; omega
    · exact hb2.2
  refine ⟨⟨?_, hne⟩, hK.block b hlt hne⟩
  rcases hb2 with hb2 | hb2
  · rcases hb2.1 with hb3 | hb3
    · exact .inl hb3
    · exact .inr ⟨hb3.1, by omega⟩
  · exact .inr ⟨by omega, by omega⟩
end
/-- where the loop of Lay stands. -/
structure LayR (w : World) (pw : Int) (v : Value) (g : Nat) (bv rv : Value) (rows : List (List UInt8)) (k : Nat) (s : Value) (wr : World) : Prop where
  j5 : J5 w pw v (g : Nat) bv rv wr
  own : Par.Own wr (w.heap.size + 2) 5 s (byteCells (encR (g + 1) (be4 rows.length :: rows.take k)))
theorem LayR.next {w wr w2 w3 : World} {pw : Int} {v bv rv : Value} {g : Nat} {rows : List (List UInt8)} {k : Nat} {s s' : Value} (h : LayR w pw v g bv rv rows k s wr) (hk : k < rows.length) {L : List UInt8} (hL : rows.getD k [] = L) (hb : Below wr.heap.size wr w2)
    (hown : Par.Own w3 (w.heap.size + 2) 5 s' (byteCells (encR (g + 1) (be4 rows.length :: rows.take k)) ++ byteCells (frameB (g + 1) L))) (hg : w2.grownBy w3 s.ownBlock) : LayR w pw v g bv rv rows (k + 1) s' w3 := by
  have hz := h.j5.size
  have hbs := hb.size
  have hb3 : Below (w.heap.size + 2) w2 w3 := own_grown (h.own.below hb) (by omega) hg
  refine ⟨(h.j5.go hb).far (Nat.le_refl _) hb3, ?_⟩
  have e : encR (g + 1) (be4 rows.length :: rows.take (k + 1)) = encR (g + 1) (be4 rows.length :: rows.take k) ++ frameB (g + 1) L := by
    rw [List.take_succ_eq_append_getElem hk, show rows[k] = L by rw [← hL, List.getD_eq_getElem?_getD, List.getElem?_eq_getElem hk]; rfl, ← List.cons_append, encR_snoc]
  rw [e, byteCells_append]
  exact hown
theorem encR_take_le (g : Nat) (x : List UInt8) (rows : List (List UInt8)) (k : Nat) : (encR g (x :: rows.take k)).length ≤ (encR g (x :: rows)).length := by
  rw [encR_len, encR_len, List.length_cons, List.length_cons, List.flatten_cons, List.flatten_cons, List.length_append, List.length_append]
  have := flat_take_le rows k
  have : (rows.take k).length ≤ rows.length := List.length_take_le' _ _
  omega

set_option maxRecDepth 100000 in
set_option maxHeartbeats 8000000 in
theorem rjlay_any (st : St) (hp : st.power ≤ 9223372036854775807) (S : Nat → Prop) (w : World) (hS : ∀ b, S b → b < w.heap.size) (g : Nat) (hg : g + 1 < 4294967296) (base rest : List (List UInt8)) (A Ab Ar : Option Addr) (n c nb cb nr cr : Nat) (h : RJv S w st.files base rest (.slice A n c) (.slice Ab nb cb) (.slice Ar nr cr)) {kf d : Nat} (hc : Calm st.files kf d) (hkf : kf ≤ 1000) (hd : d ≤ 300000)
    (Av : Option Addr) (cv : Nat) (rows : List (List UInt8)) (hv : RowsAt (· < w.heap.size) w (.slice Av rows.length cv) rows) (hr : ∀ l ∈ rows, l.length ≤ 60000) (hrl : rows.length ≤ 20000) (hE : (encR (g + 1) (be4 rows.length :: rows)).length ≤ 200000) :
    Calls Tryz.prog 30 #[.agg #[.int .i64 st.power, .slice A n c, .int .i64 (g : Nat), .slice Ab nb cb, .slice Ar nr cr], .slice Av rows.length cv] w fun e w' => ∃ r, laySteps (encR (g + 1) (be4 rows.length :: rows)) (stepsOf (hasF st.files nLog)) st = r ∧ RJPost w S r ((if r.2 = 0 then g + 1 else g : Nat) : Int) (if r.2 = 0 then rows else base) (if r.2 = 0 then [] else rest) e w' := by
  have h0 := J5.start w st.power (g : Nat) (.slice A n c) (.slice Ab nb cb) (.slice Ar nr cr)
  have H0 := Lib.hid h0; have H := Lib.hid h; have HS := Lib.hid hS; have HV := Lib.hid hv; have HCM := Lib.hid hc
  have HLR : Hid (∀ l ∈ rows, l.length ≤ 60000) := Lib.hid hr
  obtain ⟨_, _, hvf, hvc, hvm, HVA⟩ := hv.open_
  injection hvf with hvf1 hvf2 hvf3
  rw [← hvf3] at hvc hvm
  rw [← hvf1] at HVA
  clear hvf1 hvf2 hvf3
  have hgi : (g : Int) + 1 < 4294967296 := by omega
  have HFR : Hid (∀ (W : World) (u : Value) (L : List UInt8), L.length ≤ 60000 → Seg W W.heap.size u (byteCells L) → Calls Tryz.prog 63 #[.int .i64 ((g : Int) + 1), u] W fun e w' => ∃ A3 c3, e = .returned (.slice A3 (frameB (g + 1) L).length c3) ∧ Hid (Par.Own w' W.heap.size 5 (.slice A3 (frameB (g + 1) L).length c3) (byteCells (frameB (g + 1) L))) ∧ Hid (Below W.heap.size W w')) := Lib.hid fun W u L hL hs => by
    have h1 := rframe_any (g + 1) hg u L W hs (by omega)
    rw [show ((g + 1 : Nat) : Int) = (g : Int) + 1 by omega] at h1
    exact h1.mono fun e w' ⟨A3, c3, e1, e2, e3⟩ => ⟨A3, c3, e1, Lib.hid e2, Lib.hid e3⟩
  have HPU := Lib.hid (put_any rows.length (by omega))
  clear h0 h hS hv hc hr
  obtain ⟨P, hP⟩ : ∃ P, P = (fun (e : Ending) (w' : World) => ∃ r, laySteps (encR (g + 1) (be4 rows.length :: rows)) (stepsOf (hasF st.files nLog)) st = r ∧ RJPost w S r ((if r.2 = 0 then g + 1 else g : Nat) : Int) (if r.2 = 0 then rows else base) (if r.2 = 0 then [] else rest) e w') := ⟨_, rfl⟩
  rw [← hP]
  have HP := Lib.hid hP
  clear hP
  go_enter Tryz.func30, Tryz.ntmps30
  obtain ⟨x0, x1, x2, x3, x4, x5, x6, x7, x8, x9, x10, x11, x12, x13, x14, x15, x16, x17, x18, x19⟩ := H0.out.cells
  go_upto_region 1 with fail
  go_cut [6] (fun s wx => Hid (LayR w st.power (.slice A n c) g (.slice Ab nb cb) (.slice Ar nr cr) rows 0 s wx))
  case first =>
    refine wp_region_held (S := fun w' => w'.cell? ⟨w.heap.size, 2, none⟩ = some (.int .i64 (g : Nat))) (by kernel_rfl) ?_
    refine wpAnyH_take (i := 0) (v := .pointer (some ⟨w.heap.size, 2, none⟩)) rfl (by kernel_rfl) (by kernel_rfl) (by kernel_rfl) (fun _ _ _ h => h) (Or.inl ⟨by rfl, fun w' hS => by go_simp⟩) x2 ?_
    refine wpAnyH_take (i := 1) (v := .int .i64 (g : Nat)) rfl (by kernel_rfl) (by kernel_rfl) (by kernel_rfl) (fun _ _ _ h => h) (Or.inl ⟨by rfl, fun w' hS => by go_simp⟩) x2 ?_
    refine wpAnyH_take (i := 2) (v := .int .i64 ((g : Int) + 1)) rfl (by kernel_rfl) (by kernel_rfl) (by kernel_rfl) (fun _ _ _ h => h) (Or.inl ⟨by rfl, fun w' hS => by go_simp; exact wrap64 _ (by omega) (by omega)⟩) x2 ?_
    refine wpAnyH_take (i := 3) (v := .slice Av rows.length cv) rfl (by kernel_rfl) (by kernel_rfl) (by kernel_rfl) (fun _ _ _ h => h) (Or.inl ⟨by rfl, fun w' hS => by go_simp⟩) x2 ?_
    refine wpAnyH_take (i := 4) (v := .int .i64 (rows.length : Nat)) rfl (by kernel_rfl) (by kernel_rfl) (by kernel_rfl) (fun _ _ _ h => h) (Or.inl ⟨by rfl, fun w' hS => by go_simp⟩) x2 ?_
    refine wpAnyH_all (rs := [5]) (by kernel_rfl) (by simp) ?_
    intro i hi
    simp only [List.mem_cons, List.not_mem_nil, or_false] at hi
    subst hi
    refine wpOp_of rfl rfl (fun K hK => ?_)
    go_simp
    refine (HPU.out _).mono ?_
    rintro e w2 ⟨A2, c2, rfl, hu2, hb2⟩
    have h2 := (H0.out.go ((Below.refl _ _).drew)).go hb2
    have hx2 := h2.cells.2.2.1
    have HJ2 := Lib.hid h2; have HU2 := Lib.hid hu2
    clear h2 hu2 hb2
    refine hK _ _ ⟨hx2, ?_⟩
    clear hK K
    refine wpAnyH_all (rs := [6]) (by kernel_rfl) (by simp) ?_
    intro i hi
    simp only [List.mem_cons, List.not_mem_nil, or_false] at hi
    subst hi
    refine wpOp_of rfl rfl (fun K hK => ?_)
    go_simp
    refine (HFR.out _ _ (be4 rows.length) (by rw [be4_length]; omega) (Own.seg HU2.out)).mono ?_
    rintro e w3 ⟨A3, c3, rfl, HU3, HB3⟩
    have h3 := HJ2.out.go HB3.out
    have hx3 := h3.cells.2.2.1
    have HL3 : Hid (LayR w st.power (.slice A n c) g (.slice Ab nb cb) (.slice Ar nr cr) rows 0 (.slice A3 (frameB (g + 1) (be4 rows.length)).length c3) w3) := Lib.hid ⟨h3, by
      have := HU3.out.base (base' := w.heap.size + 2) HJ2.out.size
      rw [show encR (g + 1) (be4 rows.length :: rows.take 0) = frameB (g + 1) (be4 rows.length) by rw [List.take_zero, encR_cons, encR_nil, List.append_nil]]
      exact this⟩
    clear h3
    refine hK _ _ ⟨hx3, ?_⟩
    clear hK K
    refine wpAnyH_all (rs := [7]) (by kernel_rfl) (by simp) ?_
    intro i hi
    simp only [List.mem_cons, List.not_mem_nil, or_false] at hi
    subst hi
    refine wpOp_of rfl rfl (fun K hK => ?_)
    go_simp
    refine hK _ _ ⟨hx3, ?_⟩
    clear hK K
    refine wpAnyH_done (by kernel_rfl) ?_ _
    go_wp2
    go_meet
    exact HL3
  case rest =>
    clear x0 x1 x2 x3 x4 x5 x6 x7 x8 x9 x10 x11 x12 x13 x14 x15 x16 x17 x18 x19 H0 HPU
    have HL0 := hcut
    clear hcut
    go_wp2
    go_loopw [6, 7] (fun s i wr => ∃ k : Nat, k ≤ rows.length ∧ i = .int .i64 k ∧ Hid (LayR w st.power (.slice A n c) g (.slice Ab nb cb) (.slice Ar nr cr) rows k s wr)) (fun _ i _ => rows.length - (intOf i).toNat)
    case atStart => exact ⟨0, by omega, rfl, HL0⟩
    case round =>
      obtain ⟨k, hk, rfl, HLk⟩ := hrel
      obtain ⟨x0, x1, x2, x3, x4, x5, x6, x7, x8, x9, x10, x11, x12, x13, x14, x15, x16, x17, x18, x19⟩ := HLk.out.j5.cells
      by_cases hlt : k < rows.length
      · obtain ⟨b, off, Ak, ck, rfl, hbw, hcell, hseg⟩ := HVA.out wr HLk.out.j5.below k hlt
        have hmem : (rows.getD k []).length ≤ 60000 := by
          rw [List.getD_eq_getElem?_getD, List.getElem?_eq_getElem hlt]
          exact HLR.out _ (List.getElem_mem hlt)
        generalize hL : rows.getD k [] = L at *
        have HL := Lib.hid hL; have HSG := Lib.hid hseg
        clear hL hseg
        have hli : ¬ (65536 : Int) < (L.length : Int) := by omega
        go_upto_region 7 with fail
        obtain ⟨As, cs, hform⟩ := Own.formB HLk.out.own
        obtain ⟨Ns, hNs⟩ : ∃ Ns, Ns = (encR (g + 1) (be4 rows.length :: rows.take k)).length := ⟨_, rfl⟩
        rw [← hNs] at hform
        have HNs := Lib.hid hNs
        clear hNs
        subst hform
        have hbz : b < wr.heap.size := by have := HLk.out.j5.size; omega
        have hNl : Ns ≤ 200000 := by rw [HNs.out]; exact Nat.le_trans (encR_take_le _ _ _ _) hE
        refine wp_region_held (S := fun w' => w'.cell? ⟨w.heap.size, 2, none⟩ = some (.int .i64 (g : Nat)) ∧ w'.cell? ⟨b, off + k, none⟩ = some (.slice Ak L.length ck)) (by kernel_rfl) ?_
        refine wpAnyH_take (i := 0) (v := .slice As Ns cs) rfl (by kernel_rfl) (by kernel_rfl) (by kernel_rfl) (fun _ _ _ h => h) (Or.inl ⟨by rfl, fun w' hS => by obtain ⟨s0, s1⟩ := hS; go_simp⟩) ⟨x2, hcell⟩ ?_
        refine wpAnyH_take (i := 1) (v := .pointer (some ⟨w.heap.size, 2, none⟩)) rfl (by kernel_rfl) (by kernel_rfl) (by kernel_rfl) (fun _ _ _ h => h) (Or.inl ⟨by rfl, fun w' hS => by obtain ⟨s0, s1⟩ := hS; go_simp⟩) ⟨x2, hcell⟩ ?_
        refine wpAnyH_take (i := 2) (v := .int .i64 (g : Nat)) rfl (by kernel_rfl) (by kernel_rfl) (by kernel_rfl) (fun _ _ _ h => h) (Or.inl ⟨by rfl, fun w' hS => by obtain ⟨s0, s1⟩ := hS; go_simp⟩) ⟨x2, hcell⟩ ?_
        refine wpAnyH_take (i := 3) (v := .int .i64 ((g : Int) + 1)) rfl (by kernel_rfl) (by kernel_rfl) (by kernel_rfl) (fun _ _ _ h => h) (Or.inl ⟨by rfl, fun w' hS => by obtain ⟨s0, s1⟩ := hS; go_simp; exact wrap64 _ (by omega) (by omega)⟩) ⟨x2, hcell⟩ ?_
        refine wpAnyH_take (i := 4) (v := .slice (some ⟨b, off, none⟩) rows.length cv) rfl (by kernel_rfl) (by kernel_rfl) (by kernel_rfl) (fun _ _ _ h => h) (Or.inl ⟨by rfl, fun w' hS => by obtain ⟨s0, s1⟩ := hS; go_simp⟩) ⟨x2, hcell⟩ ?_
        refine wpAnyH_take (i := 5) (v := .int .i64 (k : Nat)) rfl (by kernel_rfl) (by kernel_rfl) (by kernel_rfl) (fun _ _ _ h => h) (Or.inl ⟨by rfl, fun w' hS => by obtain ⟨s0, s1⟩ := hS; go_simp⟩) ⟨x2, hcell⟩ ?_
        refine wpAnyH_take (i := 6) (v := .pointer (some ⟨b, off + k, none⟩)) rfl (by kernel_rfl) (by kernel_rfl) (by kernel_rfl) (fun _ _ _ h => h) (Or.inl ⟨by rfl, fun w' hS => by obtain ⟨s0, s1⟩ := hS; go_simp⟩) ⟨x2, hcell⟩ ?_
        refine wpAnyH_take (i := 7) (v := .slice Ak L.length ck) rfl (by kernel_rfl) (by kernel_rfl) (by kernel_rfl) (fun _ _ _ h => h) (Or.inl ⟨by rfl, fun w' hS => by obtain ⟨s0, s1⟩ := hS; go_simp⟩) ⟨x2, hcell⟩ ?_
        refine wpAnyH_all (rs := [8]) (by kernel_rfl) (by simp) ?_
        intro i hi
        simp only [List.mem_cons, List.not_mem_nil, or_false] at hi
        subst hi
        refine wpOp_of rfl rfl (fun K hK => ?_)
        go_simp
        refine (HFR.out _ _ L hmem ((Seg.drewN HSG.out 1).more (by have := HLk.out.j5.size; simp; omega))).mono ?_
        rintro e w2 ⟨A2, c2, rfl, HU2, HB2⟩
        have hb2 : Below wr.heap.size wr w2 := ((Below.refl _ wr).drew).trans HB2.out
        have HJ2 := Lib.hid (HLk.out.j5.go hb2)
        have hs2 : w2.cell? ⟨w.heap.size, 2, none⟩ = some (.int .i64 (g : Nat)) ∧ w2.cell? ⟨b, off + k, none⟩ = some (.slice Ak L.length ck) := ⟨HJ2.out.cells.2.2.1, (hb2.cell (p := ⟨b, off + k, none⟩) hbz).trans hcell⟩
        have HB2' := Lib.hid hb2
        clear hb2
        refine hK _ _ ⟨hs2, ?_⟩
        clear hK K
        refine wpAnyH_all (rs := [9]) (by kernel_rfl) (by simp) ?_
        intro i hi
        simp only [List.mem_cons, List.not_mem_nil, or_false] at hi
        subst hi
        refine wpOp_of rfl rfl (fun K hK => ?_)
        have hown2 := HLk.out.own.below HB2'.out
        have hfl : (frameB (g + 1) L).length ≤ 70000 := by rw [frameB_length]; omega
        refine wp_app _ (.tmp 30) (.tmp 38) 22 rfl (w.heap.size + 2) 5 _ byteE (.slice As Ns cs) (byteCells (encR (g + 1) (be4 rows.length :: rows.take k))) rfl hown2 _ _ (byteCells (frameB (g + 1) L)) rfl (Own.seg HU2.out) (one_bytes _) (by rw [byteCells_length, byteCells_length, ← HNs.out]; omega) (by have := HJ2.out.size; omega) (fun v3 w5 h2 h3 h4 => ?_)
        have HL4 := Lib.hid (HLk.out.next hlt HL.out HB2'.out h2 h3)
        have hx4 := HL4.out.j5.cells.2.2.1
        have hc5 : w5.cell? ⟨b, off + k, none⟩ = some (.slice Ak L.length ck) := by
          have hb4 := HL4.out.j5.below
          exact ((own_grown hown2 (by have := HJ2.out.size; omega) h3).cell (p := ⟨b, off + k, none⟩) (by show b < _; omega)).trans hs2.2
        refine hK _ _ ⟨⟨hx4, hc5⟩, ?_⟩
        obtain ⟨A3, c3, hf3⟩ := h2.form
        obtain ⟨N3, hN3⟩ : ∃ N3, N3 = (byteCells (encR (g + 1) (be4 rows.length :: rows.take k)) ++ byteCells (frameB (g + 1) L)).length := ⟨_, rfl⟩
        rw [← hN3] at hf3
        clear hK K h2 h3 h4 hown2 hN3
        subst hf3
        refine wpAnyH_all (rs := [10]) (by kernel_rfl) (by simp) ?_
        intro i hi
        simp only [List.mem_cons, List.not_mem_nil, or_false] at hi
        subst hi
        refine wpOp_of rfl rfl (fun K hK => ?_)
        go_simp
        refine hK _ _ ⟨⟨hx4, hc5⟩, ?_⟩
        clear hK K
        refine wpAnyH_done (by kernel_rfl) ?_ _
        go_wp2
        go_roundw
        case rel => exact ⟨k + 1, by omega, by go_num, HL4⟩
        case measure => simp [intOf]; omega
      · have hkl : k = rows.length := by omega
        have hown := HLk.out.own
        rw [hkl, List.take_length] at hown
        obtain ⟨E, hEq⟩ : ∃ E, E = encR (g + 1) (be4 rows.length :: rows) := ⟨_, rfl⟩
        rw [← hEq] at hown hE
        have HEQ := Lib.hid hEq
        have HJk := Lib.hid HLk.out.j5
        have HOW := Lib.hid hown
        clear hkl hown hEq HLk HFR HL0
        obtain ⟨As, cs, hform⟩ := Own.formB HOW.out
        obtain ⟨Ns, hNs⟩ : ∃ Ns, Ns = E.length := ⟨_, rfl⟩
        rw [← hNs] at hform
        clear hNs
        subst hform
        obtain ⟨T0, e0, hR0⟩ : ∃ T0 e0, stepSt E 0 st = (T0, e0) := ⟨_, _, rfl⟩
        have HRA : Hid (Calls Tryz.prog 10 #[.agg #[.int .i64 st.power, .slice A n c], .string ⟨#[110, 101, 120, 116]⟩, .slice (some ⟨wr.heap.size, 0, none⟩) 1 1] (wr.alloc (.cells #[.slice As Ns cs] 22)) fun e w' => ∃ A2 n2 c2, e = .returned (.tuple #[.agg #[.int .i64 T0.power, .slice A2 n2 c2], .int .i64 e0]) ∧ Hid (TmpI S w T0 st.power (g : Nat) (.slice A n c) (.slice Ab nb cb) (.slice Ar nr cr) w'.heap.size (.slice A2 n2 c2) (w'.alloc (.cells #[.int .i64 T0.power, .slice A2 n2 c2] 28)))) := Lib.hid (by
          have hb := box_below wr (.cells #[.slice As Ns cs] 22)
          have hW1 := HJk.out.go hb
          have hz := HJk.out.size
          have hz1 := hW1.size
          have hrow := RowsAt.new1 (F := fun _ => False) (fun j hj => hj.elim) (SegS.keep (S := (· < wr.heap.size)) (S' := Out wr fun _ => False) (Own.seg HOW.out) fun j hj => ⟨⟨hj, fun hf => hf⟩, rfl⟩) wr.heap.size rfl
          refine (rappend_any st hp _ S _ (fun b hb => by have := HS.out b hb; omega) (H.out.old HS.out hW1.below).ref nNext (by decide) (by have := HCM.out.files; omega) (fun f hf => by have := HCM.out.data f hf; omega) _ [E] (hrow.sub fun j hj => hj.1) (by simp; omega)).mono ?_
          rintro e w' ⟨v', rfl, g1, g2⟩
          have hfl : [E].flatten = E := by simp
          simp only [hfl] at g1 ⊢
          rw [show stAppend st nNext E = (T0, e0) from hR0] at g1 ⊢
          obtain ⟨A2, c2, rfl, -, -⟩ := g1.form
          exact ⟨A2, _, c2, rfl, Lib.hid (TmpI.late HS.out (hW1.go g2) g1 hz1)⟩)
        obtain ⟨T1, e1, hR1⟩ : ∃ T1 e1, stp E 1 (T0, e0) = (T1, e1) := ⟨_, _, rfl⟩
        obtain ⟨T2, e2, hR2⟩ : ∃ T2 e2, stp E 2 (T1, e1) = (T2, e2) := ⟨_, _, rfl⟩
        obtain ⟨hl, hhl⟩ : ∃ hl, hasF st.files nLog = hl := ⟨_, rfl⟩
        obtain ⟨T3, e3, hR3⟩ : ∃ T3 e3, (if e2 = 0 ∧ hl = true then stepSt E 3 T2 else (T2, e2)) = (T3, e3) := ⟨_, _, rfl⟩
        have HRR : Hid (laySteps E (stepsOf (hasF st.files nLog)) st = (T3, e3)) := Lib.hid (by rw [lay_chain, hR0, hR1, hR2, hhl]; exact hR3)
        have HC0 : Hid (Calm T0.files (kf + 1) (d + E.length) ∧ T0.power ≤ 9223372036854775807) := Lib.hid (by have h1 := step_calm (b := E) HCM.out 0; have h2 := step_power (b := E) hp 0; rw [hR0] at h1 h2; exact ⟨h1, h2⟩)
        have HC1 : Hid (Calm T1.files (kf + 1 + 1) (d + E.length + E.length) ∧ T1.power ≤ 9223372036854775807) := Lib.hid (by have h1 := stp_calm (b := E) (i := 1) (R := (T0, e0)) HC0.out.1; have h2 := stp_power (b := E) (i := 1) (R := (T0, e0)) HC0.out.2; rw [hR1] at h1 h2; exact ⟨h1, h2⟩)
        have HC2 : Hid (Calm T2.files (kf + 1 + 1 + 1) (d + E.length + E.length + E.length) ∧ T2.power ≤ 9223372036854775807) := Lib.hid (by have h1 := stp_calm (b := E) (i := 2) (R := (T1, e1)) HC1.out.1; have h2 := stp_power (b := E) (i := 2) (R := (T1, e1)) HC1.out.2; rw [hR2] at h1 h2; exact ⟨h1, h2⟩)
        have HH2 : Hid (hasF T2.files nLog = hl) := Lib.hid (by
          have h0 := step_has (b := E) (st := st) 0; have h1 := stp_has (b := E) (i := 1) (R := (T0, e0)); have h2 := stp_has (b := E) (i := 2) (R := (T1, e1))
          rw [hR0] at h0; rw [hR1] at h1; rw [hR2] at h2
          simp only at h0 h1 h2
          rw [h2, h1, h0, hhl])
        have HR1 := Lib.hid hR1; have HR2 := Lib.hid hR2; have HR3 := Lib.hid hR3
        clear hR0 hR1 hR2 hR3 hhl
        go_upto_region 8 with fail
        go_cut [8, 9] (fun f8 e9 wx => ∃ (X : Nat) (A2 : Option Addr) (n2 c2 : Nat), f8 = .pointer (some ⟨X, 0, none⟩) ∧ e9 = .int .i64 e0 ∧ Hid (TmpI S w T0 st.power (g : Nat) (.slice A n c) (.slice Ab nb cb) (.slice Ar nr cr) X (.slice A2 n2 c2) wx))
        case first =>
          go_wp2_with fail
          refine HRA.out.mono ?_
          rintro e w6 ⟨A2, n2, c2, rfl, HT6⟩
          clear HRA
          go_wp2
          go_meet
          exact ⟨_, A2, n2, c2, rfl, rfl, HT6⟩
        case rest =>
          obtain ⟨X, A2, n2, c2, rfl, rfl, HT0⟩ := hcut
          clear x0 x1 x2 x3 x4 x5 x6 x7 x8 x9 x10 x11 x12 x13 x14 x15 x16 x17 x18 x19 HRA HOW HJk
          have HWR : Hid (IntKind.i64.wrap ((g : Int) + 1) = (g : Int) + 1) := Lib.hid (wrap64 _ (by omega) (by omega))
          clear hg hgi
          have HT1W := Lib.hid HT0.out.j5.cells
          obtain ⟨t0, t1, t2, t3⟩ := HT0.out.cells
          obtain ⟨W1, rfl⟩ : ∃ W, W = wc := ⟨_, rfl⟩
          go_upto_if 49 with fail
          go_cut [9] (fun e9 wx => ∃ (A1 : Option Addr) (n1 c1 : Nat), e9 = .int .i64 e1 ∧ Hid (TmpI S w T1 st.power (g : Nat) (.slice A n c) (.slice Ab nb cb) (.slice Ar nr cr) X (.slice A1 n1 c1) wx))
          case first =>
            by_cases he : e0 = 0
            · subst he
              have hrn : stepSt E 1 T0 = (T1, e1) := by rw [← HR1.out, stp_ok]
              have hcall := rsync_any T0 HC0.out.2 (.slice A2 n2 c2) (MidX S w X W1) W1 (HT0.out.lt HS.out) HT0.out.ref nNext (by decide) (by have := HC0.out.1.files; omega)
              rw [show stSync T0 nNext = (T1, e1) from hrn] at hcall
              have HCALL := Lib.hid hcall
              clear hrn hcall
              go_wp2_with fail
              refine HCALL.out.mono ?_
              rintro e w7 ⟨v7, rfl, g1, g2⟩
              obtain ⟨A7, c7, rfl, -, -⟩ := g1.form
              have HTN := Lib.hid (HT0.out.next HS.out g2 g1)
              obtain ⟨q0, q1, q2, q3⟩ := (HT0.out.go HS.out g2).cells
              clear g1 g2 t0 t1 t2 t3
              go_wp2
              go_meet
              exact ⟨A7, _, c7, rfl, HTN⟩
            · have hef : (e0 == 0) = false := by simpa using he
              have hrn : T1 = T0 ∧ e1 = e0 := by have := HR1.out; rw [stp_no he] at this; injection this with x y; exact ⟨x.symm, y.symm⟩
              have HRN := Lib.hid hrn
              clear hrn he
              go_wp2
              go_meet
              exact ⟨_, _, _, by rw [HRN.out.2], by rw [HRN.out.1]; exact HT0⟩
          case rest =>
          obtain ⟨A1, n1, c1, rfl, HT1⟩ := hcut
          clear t0 t1 t2 t3 HT1W
          have HT2W := Lib.hid HT1.out.j5.cells
          obtain ⟨t0, t1, t2, t3⟩ := HT1.out.cells
          obtain ⟨W2, rfl⟩ : ∃ W, W = wc := ⟨_, rfl⟩
          go_upto_if 56 with fail
          go_cut [9] (fun e9 wx => ∃ (A2 : Option Addr) (n2 c2 : Nat), e9 = .int .i64 e2 ∧ Hid (TmpI S w T2 st.power (g : Nat) (.slice A n c) (.slice Ab nb cb) (.slice Ar nr cr) X (.slice A2 n2 c2) wx))
          case first =>
            by_cases he : e1 = 0
            · subst he
              have hrn : stepSt E 2 T1 = (T2, e2) := by rw [← HR2.out, stp_ok]
              have hcall := rrename_any T1 HC1.out.2 (.slice A1 n1 c1) (MidX S w X W2) W2 (HT1.out.lt HS.out) HT1.out.ref nNext nBase (by decide) (by decide) (by have := HC1.out.1.files; omega) (fun f hf => by have := HC1.out.1.data f hf; omega)
              rw [show stRename T1 nNext nBase = (T2, e2) from hrn] at hcall
              have HCALL := Lib.hid hcall
              clear hrn hcall
              go_wp2_with fail
              refine HCALL.out.mono ?_
              rintro e w7 ⟨v7, rfl, g1, g2⟩
              obtain ⟨A7, c7, rfl, -, -⟩ := g1.form
              have HTN := Lib.hid (HT1.out.next HS.out g2 g1)
              obtain ⟨q0, q1, q2, q3⟩ := (HT1.out.go HS.out g2).cells
              clear g1 g2 t0 t1 t2 t3
              go_wp2
              go_meet
              exact ⟨A7, _, c7, rfl, HTN⟩
            · have hef : (e1 == 0) = false := by simpa using he
              have hrn : T2 = T1 ∧ e2 = e1 := by have := HR2.out; rw [stp_no he] at this; injection this with x y; exact ⟨x.symm, y.symm⟩
              have HRN := Lib.hid hrn
              clear hrn he
              go_wp2
              go_meet
              exact ⟨_, _, _, by rw [HRN.out.2], by rw [HRN.out.1]; exact HT1⟩
          case rest =>
          obtain ⟨A2, n2, c2, rfl, HT2⟩ := hcut
          clear t0 t1 t2 t3 HT2W
          obtain ⟨t0, t1, t2, t3⟩ := HT2.out.cells
          obtain ⟨BB, hBB⟩ : ∃ BB : Bool, BB = (decide (e2 = 0) && hl) := ⟨_, rfl⟩
          have HBB := Lib.hid hBB
          obtain ⟨W3, rfl⟩ : ∃ W, W = wc := ⟨_, rfl⟩
          go_upto_region 13 with fail
          go_cut [67] (fun b67 wx => b67 = .bool BB ∧ Hid (TmpI S w T2 st.power (g : Nat) (.slice A n c) (.slice Ab nb cb) (.slice Ar nr cr) X (.slice A2 n2 c2) wx))
          case first =>
            by_cases he : e2 = 0
            · subst he
              have hb : BB = hl := by rw [hBB]; simp
              subst hb
              have HCALL := Lib.hid (rhas_any T2 (.slice A2 n2 c2) (MidX S w X W3) W3 (HT2.out.lt HS.out) HT2.out.ref nLog (by decide) (by decide) (fun f hf => by have := HC2.out.1.data f hf; omega))
              rw [HH2.out] at HCALL
              clear hBB
              go_wp2_with fail
              refine HCALL.out.mono ?_
              rintro e w7 ⟨rfl, g2⟩
              have HTN := Lib.hid (HT2.out.go HS.out g2)
              clear g2 t0 t1 t2 t3
              go_wp2
              go_meet
              exact ⟨rfl, HTN⟩
            · have hef : (e2 == 0) = false := by simpa using he
              have hb : BB = false := by rw [hBB, decide_eq_false he]; rfl
              subst hb
              clear he hBB
              go_wp2
              go_meet
              exact ⟨rfl, HT2⟩
          case rest =>
          obtain ⟨rfl, HT2'⟩ := hcut
          clear t0 t1 t2 t3 HT2 hBB
          obtain ⟨t0, t1, t2, t3⟩ := HT2'.out.cells
          obtain ⟨W4, rfl⟩ : ∃ W, W = wc := ⟨_, rfl⟩
          go_upto_if 67 with fail
          go_cut [9] (fun e9 wx => ∃ (A3 : Option Addr) (n3 c3 : Nat), e9 = .int .i64 e3 ∧ Hid (TmpI S w T3 st.power (g : Nat) (.slice A n c) (.slice Ab nb cb) (.slice Ar nr cr) X (.slice A3 n3 c3) wx))
          case first =>
            cases BB
            · have hrn : T3 = T2 ∧ e3 = e2 := by
                have h1 := HBB.out
                have h2 := HR3.out
                rw [if_neg (by rintro ⟨rfl, rfl⟩; simp at h1)] at h2
                injection h2 with x y
                exact ⟨x.symm, y.symm⟩
              have HRN := Lib.hid hrn
              clear hrn
              go_wp2
              go_meet
              exact ⟨_, _, _, by rw [HRN.out.2], by rw [HRN.out.1]; exact HT2'⟩
            · have hrn : stepSt E 3 T2 = (T3, e3) := by
                have h1 := HBB.out
                have h2 := HR3.out
                rw [if_pos (by
                  have := h1.symm
                  rw [Bool.and_eq_true] at this
                  exact ⟨of_decide_eq_true this.1, this.2⟩)] at h2
                exact h2
              have hcall := rtruncate_any T2 HC2.out.2 (.slice A2 n2 c2) (MidX S w X W4) W4 (HT2'.out.lt HS.out) HT2'.out.ref nLog (by decide) (by have := HC2.out.1.files; omega) (fun f hf => by have := HC2.out.1.data f hf; omega) 0
              rw [show stTruncate T2 nLog 0 = (T3, e3) from hrn] at hcall
              have HCALL := Lib.hid hcall
              clear hrn hcall
              go_wp2_with fail
              refine HCALL.out.mono ?_
              rintro e w7 ⟨v7, rfl, g1, g2⟩
              obtain ⟨A7, c7, rfl, -, -⟩ := g1.form
              have HTN := Lib.hid (HT2'.out.next HS.out g2 g1)
              obtain ⟨q0, q1, q2, q3⟩ := (HT2'.out.go HS.out g2).cells
              clear g1 g2 t0 t1 t2 t3
              go_wp2
              go_meet
              exact ⟨A7, _, c7, rfl, HTN⟩
          case rest =>
          obtain ⟨A3, n3, c3, rfl, HT3⟩ := hcut
          clear t0 t1 t2 t3 HT2'
          obtain ⟨t0, t1, t2, t3⟩ := HT3.out.cells
          obtain ⟨x0, x1, x2, x3, x4, x5, x6, x7, x8, x9, x10, x11, x12, x13, x14, x15, x16, x17, x18, x19⟩ := HT3.out.j5.cells
          obtain ⟨W5, rfl⟩ : ∃ W, W = wc := ⟨_, rfl⟩
          have HI5 := Lib.hid (HT3.out.j5.files T3.power (.slice A3 n3 c3))
          have g5 := mid_go HS.out HT3.out.j5.size (setJ w W5 (.int .i64 T3.power) (.slice A3 n3 c3) 0 1) (fun k hk => .inl hk)
          have HRF : Hid (RefS (Mid S w ((W5.setCell ⟨w.heap.size, 0, none⟩ (.int .i64 T3.power)).setCell ⟨w.heap.size, 1, none⟩ (.slice A3 n3 c3))) ((W5.setCell ⟨w.heap.size, 0, none⟩ (.int .i64 T3.power)).setCell ⟨w.heap.size, 1, none⟩ (.slice A3 n3 c3)) (.slice A3 n3 c3) T3.files) := Lib.hid ((HT3.out.ref.sub fun b hb => hb.1).keep g5)
          by_cases he : e3 = 0
          case neg =>
            have hef : (e3 != 0) = true := by simpa using he
            have h1 := H.out.old HS.out HT3.out.j5.below
            have HFIN := Lib.hid (HI5.out.fin (er := e3) (T := T3) (base := base) (rest := rest) HS.out ⟨HRF.out, (h1.rb.sub fun b hb => .inl hb).keep g5, (h1.rr.sub fun b hb => .inl hb).keep g5⟩)
            have HNE := Lib.hid he
            clear h1 g5 he
            go_wp2
            refine bodyPost_ret (v := .tuple #[.agg #[.int .i64 T3.power, .slice A3 n3 c3, .int .i64 g, .slice Ab nb cb, .slice Ar nr cr], .int .i64 e3]) (by simp [results, Tryz.results30, go_sem, x0, x1, x2, x3, x4, x5, x6, x7, x8, x9, x10, x11, x12, x13, x14, x15, x16, x17, x18, x19]) rfl ?_
            rw [HP.out, ← HEQ.out]
            refine ⟨_, HRR.out, ?_⟩
            simp only [if_neg HNE.out]
            exact HFIN.out
          case pos =>
            subst he
            have hwr := HWR.out
            have HI6 := Lib.hid (HI5.out.setG ((g : Int) + 1))
            obtain ⟨X6, hX6⟩ : ∃ X6, X6 = ((W5.setCell ⟨w.heap.size, 0, none⟩ (.int .i64 T3.power)).setCell ⟨w.heap.size, 1, none⟩ (.slice A3 n3 c3)).setCell ⟨w.heap.size, 2, none⟩ (.int .i64 ((g : Int) + 1)) := ⟨_, rfl⟩
            have g6 := mid_go HS.out HI5.out.size (setJ1 w ((W5.setCell ⟨w.heap.size, 0, none⟩ (.int .i64 T3.power)).setCell ⟨w.heap.size, 1, none⟩ (.slice A3 n3 c3)) (.int .i64 ((g : Int) + 1)) 2) (fun k hk => .inl hk)
            have HRF6 := Lib.hid (HRF.out.keep g6)
            have HV6 := Lib.hid (HV.out.keep (S' := (· < w.heap.size)) (w' := X6) fun b hb => ⟨hb, by rw [hX6]; exact HI6.out.below.block b hb⟩)
            have HCR := Lib.hid (copyRows_any (.slice Av rows.length cv) rows w.heap.size X6 HV6.out (by rw [hX6]; exact HI6.out.below.size) (by omega) (fun l hl => by have := HLR.out l hl; omega))
            rw [hX6] at HCR
            rw [← hX6] at HRF6
            have HX6 := Lib.hid hX6
            clear hX6 g5 g6 HV6
            go_wp2_with fail
            refine HCR.out.mono ?_
            rintro e w7 ⟨u7, rfl, hr7, hb7⟩
            obtain ⟨A7, c7, hform, -, -⟩ := (hr7.sub (S' := (· < w7.heap.size)) fun b hb => hb.2).open_
            subst hform
            have HI7 := Lib.hid (HI6.out.go hb7)
            have HI8 := Lib.hid ((HI7.out.setB (.slice A7 rows.length c7)).setR (.slice none 0 0))
            have HFIN : Hid (RJPost w S (T3, 0) ((g : Int) + 1) rows [] (.returned (.tuple #[.agg #[.int .i64 T3.power, .slice A3 n3 c3, .int .i64 ((g : Int) + 1), .slice A7 rows.length c7, .slice none 0 0], .int .i64 0])) _) := Lib.hid (HI8.out.fin (er := 0) (T := T3) (base := rows) (rest := []) HS.out (by
              have hb7' := hb7
              rw [← HX6.out] at hb7' hr7
              have hz6 : w.heap.size + 2 ≤ X6.heap.size := by rw [HX6.out]; exact HI6.out.size
              have hz7 : X6.heap.size ≤ w7.heap.size := hb7'.size
              have g7 := mid_go HS.out hz6 (Kept.of_below (F := fun _ => False) hb7') (fun k hk => hk.elim)
              have g8 := mid_go HS.out HI7.out.size (setJ w w7 (.slice A7 rows.length c7) (.slice none 0 0) 3 4) (fun k hk => .inl hk)
              exact ⟨(HRF6.out.keep g7).keep g8, (hr7.sub (S' := Mid S w w7) fun b hb => .inr ⟨by have := hb.1; omega, hb.2⟩).keep g8, RowsAt.nil _ _⟩))
            clear hr7 hb7 x0 x1 x2 x3 x4 x5 x6 x7 x8 x9 x10 x11 x12 x13 x14 x15 x16 x17 x18 x19 t0 t1 t2 t3 HCR
            obtain ⟨x0, x1, x2, x3, x4, x5, x6, x7, x8, x9, x10, x11, x12, x13, x14, x15, x16, x17, x18, x19⟩ := HI7.out.cells
            go_wp2
            refine bodyPost_ret (v := .tuple #[.agg #[.int .i64 T3.power, .slice A3 n3 c3, .int .i64 ((g : Int) + 1), .slice A7 rows.length c7, .slice none 0 0], .int .i64 0]) (by simp [results, Tryz.results30, go_sem, x0, x1, x2, x3, x4, x5, x6, x7, x8, x9, x10, x11, x12, x13, x14, x15, x16, x17, x18, x19]) rfl ?_
            rw [HP.out, ← HEQ.out]
            refine ⟨_, HRR.out, ?_⟩
            simp only [reduceIte]
            rw [show ((g + 1 : Nat) : Int) = (g : Int) + 1 by omega]
            exact HFIN.out
end Go.Proofs.YtpdelgjfamelfaaGreat
