/- Append of a journal. -/
import Derived.Test.YtpdelgjfamelfaaGreatJ11
namespace Go.Proofs.YtpdelgjfamelfaaGreat
open Go.RowKit Go.Lib Go.Vfs Go.Par Go.Shelf
set_option linter.unusedVariables false
set_option linter.unusedSimpArgs false

abbrev nLog : List UInt8 := [108, 111, 103]
abbrev nBase : List UInt8 := [98, 97, 115, 101]
abbrev nNext : List UInt8 := [110, 101, 120, 116]
def jAppend (st : St) (gen : Nat) (log : List (List UInt8)) (pay : List UInt8) : St × Int × List (List UInt8) :=
  ((stAppend st nLog (frameB gen pay)).1, (stAppend st nLog (frameB gen pay)).2, if (stAppend st nLog (frameB gen pay)).2 = 0 then log ++ [pay] else log)

/-- a record more, in memory. -/
theorem JPost.push {w w4 X w5 : World} {pj p : Nat} {st st' : St} {gen : Nat} {base log : List (List UInt8)} {F F' G : Nat → Prop} (h : JF w pj p st gen base log F G) {bv lv : Value} {bs us : List Value} (hj : JV w pj p gen bv lv bs us base log G)
    (hf : Fsy w4 p st' F') (hk : Kept F w w4) (hg : Grows w F F') (hX : Below w4.heap.size w4 X) {u2 : Value} {l2 : List UInt8} (hu : Par.Own X w4.heap.size 5 u2 (byteCells l2)) {lv' : Value}
    (hown : w5.ownsRow 0 22 1 lv' (log.length + 1) (us ++ [u2])) (hg5 : X.grownBy w5 lv.ownBlock) (hat : lv'.ownBlock = lv.ownBlock ∨ lv'.ownBlock = some X.heap.size) : JPost w pj p F G st' gen base (log ++ [l2]) (w5.setCell ⟨pj, 3, none⟩ lv') := by
  have hz := hk.size
  have hzX := hX.size
  have hlt := hj.lt
  have hj4 := hj.kept hk h.apart
  have hjX := hj4.go hX
  have hjE := hjX.pushL hu (fun g e hg1 => by have := (hu.lt g e).1; have := hlt g hg1; omega) hown hg5 hat
  have hlv : ∀ g, lv.ownBlock = some g → G g ∧ g ≠ pj := fun g e => ⟨(hj.gl g e).1, (hj.gl g e).2.1⟩
  have hFG : ∀ k, F' k → ¬ G k := fun k hk1 hk2 => by
    rcases hg k hk1 with h1 | h1
    · exact h.apart k hk2 h1
    · have := hlt k hk2; omega
  have hF4 := hf.lt
  refine ⟨F', _, ⟨hf.keep fun k hk1 => ?_, ⟨_, _, _, _, hjE⟩, fun k hk1 hk2 => ?_⟩, ?_, hg, fun k hk1 => ?_⟩
  · rw [setCell_block (fun (e : k = pj) => hFG k hk1 (e ▸ hj.gpj)), hg5.block k (by have := hF4 k hk1; omega) (fun e => hFG k hk1 (hlv k e.symm).1)]
    exact hX.block k (hF4 k hk1)
  · rcases hk1 with ⟨hk1, -⟩ | hk1 | hk1
    · exact hFG k hk2 hk1
    · have := (hu.lt k hk1).1; have := hF4 k hk2; omega
    · rcases hat with e1 | e1
      · exact hFG k hk2 (hlv k (e1 ▸ hk1)).1
      · rw [e1] at hk1; injection hk1 with hk1; have := hF4 k hk2; omega
  · exact (((hk.mono fun k _ hk1 => .inl hk1).trans' (Kept.of_below hX)).grown hg5 (fun k e => .inl (.inr (hlv k e).1))).setCell (p := ⟨pj, 3, none⟩) (.inl (.inr hj.gpj)) _
  · rcases hk1 with ⟨hk1, -⟩ | hk1 | hk1
    · exact .inl hk1
    · right; have := (hu.lt k hk1).1; omega
    · rcases hat with e1 | e1
      · exact .inl (hlv k (e1 ▸ hk1)).1
      · rw [e1] at hk1; injection hk1 with hk1; right; omega

set_option maxRecDepth 20000 in
set_option maxHeartbeats 4000000 in
theorem jappend_any {w : World} {pj p : Nat} {st : St} {gen : Nat} {base log : List (List UInt8)} {F G : Nat → Prop} (h : JF w pj p st gen base log F G) (v : Value) (pay : List UInt8) (hv : SegS (fun k => k < w.heap.size ∧ ¬ F k) w v (byteCells pay)) (hp : pay.length ≤ 65536)
    (hm : Modest st (12 + pay.length)) (hll : log.length ≤ 1000000) :
    Calls Tryz.prog 24 #[.pointer (some ⟨pj, 0, none⟩), v] w fun e w' => e = .returned (.int .i64 (jAppend st gen log pay).2.1) ∧ JPost w pj p F G (jAppend st gen log pay).1 gen base (jAppend st gen log pay).2.2 w' := by
  have HH := Lib.hid h
  obtain ⟨hf, ⟨bv, lv, bs, us, hj⟩, hap⟩ := h
  obtain ⟨⟨c0, c1, c2, c3⟩, -⟩ := hj.cells
  have HJ := Lib.hid hj; have HF := Lib.hid hf
  have hgl := hj.gen_lt
  have HPJ : Hid (pj < w.heap.size ∧ ¬ F pj) := Lib.hid ⟨hj.lt _ hj.gpj, hap pj hj.gpj⟩
  have HLL := Lib.hid hll; have HM := Lib.hid hm
  have HV := Lib.hid (hv.seg (B := w.heap.size) fun k hk => hk.1)
  have HVS := Lib.hid hv
  obtain ⟨A, c, rfl, hc, hmx, -⟩ := hv
  rw [byteCells_length] at HV HVS hc ⊢
  have hpl : ¬ (65536 : Int) < (pay.length : Int) := by omega
  have HP := Lib.hid hp
  have HS0 : Hid (w.drew.cell? ⟨pj, 0, none⟩ = some (.pointer (some ⟨p, 0, none⟩)) ∧ w.drew.cell? ⟨pj, 1, none⟩ = some (.int .u32 (gen : Nat))) := Lib.hid ⟨c0, c1⟩
  have HBZ : Hid (Below w.heap.size w w.drew) := Lib.hid (Below.refl _ w).drew
  have HFR := Lib.hid (framed_any gen hgl (.slice A pay.length c) pay w.drew (HV.out) (by omega))
  clear hf hj hap c0 c1 c2 c3 hp hm hll
  go_enter Tryz.func24, Tryz.ntmps24
  go_upto_region 3 with fail
  go_cut [5] (fun r W => r = .int .i64 (stAppend st nLog (frameB gen pay)).2 ∧ Hid (∃ F', Fsy W p (stAppend st nLog (frameB gen pay)).1 F' ∧ Kept F w W ∧ Grows w F F'))
  case first =>
    refine wp_region_held (S := fun w' => w'.cell? ⟨pj, 0, none⟩ = some (.pointer (some ⟨p, 0, none⟩)) ∧ w'.cell? ⟨pj, 1, none⟩ = some (.int .u32 (gen : Nat))) (by kernel_rfl) ?_
    refine wpAnyH_take (i := 0) (v := .pointer (some ⟨pj, 0, none⟩)) rfl (by kernel_rfl) (by kernel_rfl) (by kernel_rfl) (fun _ _ _ h => h) (Or.inl ⟨by rfl, fun w' hS => by obtain ⟨s0, s1⟩ := hS; go_simp⟩) HS0.out ?_
    refine wpAnyH_take (i := 1) (v := .pointer (some ⟨pj, 0, none⟩)) rfl (by kernel_rfl) (by kernel_rfl) (by kernel_rfl) (fun _ _ _ h => h) (Or.inl ⟨by rfl, fun w' hS => by obtain ⟨s0, s1⟩ := hS; go_simp⟩) HS0.out ?_
    refine wpAnyH_take (i := 2) (v := .pointer (some ⟨pj, 0, none⟩)) rfl (by kernel_rfl) (by kernel_rfl) (by kernel_rfl) (fun _ _ _ h => h) (Or.inl ⟨by rfl, fun w' hS => by obtain ⟨s0, s1⟩ := hS; go_simp⟩) HS0.out ?_
    refine wpAnyH_take (i := 3) (v := .pointer (some ⟨p, 0, none⟩)) rfl (by kernel_rfl) (by kernel_rfl) (by kernel_rfl) (fun _ _ _ h => h) (Or.inl ⟨by rfl, fun w' hS => by obtain ⟨s0, s1⟩ := hS; go_simp⟩) HS0.out ?_
    refine wpAnyH_take (i := 4) (v := .pointer (some ⟨pj, 0, none⟩)) rfl (by kernel_rfl) (by kernel_rfl) (by kernel_rfl) (fun _ _ _ h => h) (Or.inl ⟨by rfl, fun w' hS => by obtain ⟨s0, s1⟩ := hS; go_simp⟩) HS0.out ?_
    refine wpAnyH_take (i := 5) (v := .pointer (some ⟨pj, 0, none⟩)) rfl (by kernel_rfl) (by kernel_rfl) (by kernel_rfl) (fun _ _ _ h => h) (Or.inl ⟨by rfl, fun w' hS => by obtain ⟨s0, s1⟩ := hS; go_simp⟩) HS0.out ?_
    refine wpAnyH_take (i := 6) (v := .pointer (some ⟨pj, 1, none⟩)) rfl (by kernel_rfl) (by kernel_rfl) (by kernel_rfl) (fun _ _ _ h => h) (Or.inl ⟨by rfl, fun w' hS => by obtain ⟨s0, s1⟩ := hS; go_simp⟩) HS0.out ?_
    refine wpAnyH_take (i := 7) (v := .int .u32 (gen : Nat)) rfl (by kernel_rfl) (by kernel_rfl) (by kernel_rfl) (fun _ _ _ h => h) (Or.inl ⟨by rfl, fun w' hS => by obtain ⟨s0, s1⟩ := hS; go_simp⟩) HS0.out ?_
    refine wpAnyH_take (i := 8) (v := .slice A pay.length c) rfl (by kernel_rfl) (by kernel_rfl) (by kernel_rfl) (fun _ _ _ h => h) (Or.inl ⟨by rfl, fun w' hS => by obtain ⟨s0, s1⟩ := hS; go_simp⟩) HS0.out ?_
    refine wpAnyH_all (rs := [9]) (by kernel_rfl) (by simp) ?_
    intro i hi
    simp only [List.mem_cons, List.not_mem_nil, or_false] at hi
    subst hi
    refine wpOp_of rfl rfl (fun K hK => ?_)
    go_simp
    refine HFR.out.mono ?_
    rintro e w2 ⟨A2, c2, rfl, hu2, hb2⟩
    have HB2 : Hid (Below w.heap.size w w2) := Lib.hid (HBZ.out.trans hb2)
    have HU2 := Lib.hid hu2
    have hs2 : w2.cell? ⟨pj, 0, none⟩ = some (.pointer (some ⟨p, 0, none⟩)) ∧ w2.cell? ⟨pj, 1, none⟩ = some (.int .u32 (gen : Nat)) := ⟨(HB2.out.cell (p := ⟨pj, 0, none⟩) HPJ.out.1).trans HS0.out.1, (HB2.out.cell (p := ⟨pj, 1, none⟩) HPJ.out.1).trans HS0.out.2⟩
    clear hu2 hb2 HFR
    refine hK _ _ ⟨hs2, ?_⟩
    clear hK K
    have hs3 := And.intro (Lib.cell?_alloc_some (.cells #[.slice A2 (frameB gen pay).length c2] 22) hs2.1) (Lib.cell?_alloc_some (.cells #[.slice A2 (frameB gen pay).length c2] 22) hs2.2)
    refine wpAnyH_all (rs := [10]) (by kernel_rfl) (by simp) ?_
    intro i hi
    simp only [List.mem_cons, List.not_mem_nil, or_false] at hi
    subst hi
    refine wpOp_of rfl rfl (fun K hK => ?_)
    go_simp
    refine hK _ _ ⟨hs3, ?_⟩
    clear hK K
    refine wpAnyH_all (rs := [11]) (by kernel_rfl) (by simp) ?_
    intro i hi
    simp only [List.mem_cons, List.not_mem_nil, or_false] at hi
    subst hi
    refine wpOp_of rfl rfl (fun K hK => ?_)
    go_simp
    have hb3 : Below w.heap.size w (w2.alloc (.cells #[.slice A2 (frameB gen pay).length c2] 22)) := HB2.out.trans ((box_below w2 _).mono HB2.out.size)
    have hrows : RowsAt (Out (w2.alloc (.cells #[.slice A2 (frameB gen pay).length c2] 22)) F) (w2.alloc (.cells #[.slice A2 (frameB gen pay).length c2] 22)) (.slice (some ⟨w2.heap.size, 0, none⟩) 1 1) [frameB gen pay] := by
      have hone := Seg.new w2 22 #[.slice A2 (frameB gen pay).length c2] [.slice A2 (frameB gen pay).length c2] rfl (by simp [maxLen])
      have hz := HB2.out.size
      have hFl := HF.out.lt
      have hst : SegS (Out (w2.alloc (.cells #[.slice A2 (frameB gen pay).length c2] 22)) F) (w2.alloc (.cells #[.slice A2 (frameB gen pay).length c2] 22)) (.slice (some ⟨w2.heap.size, 0, none⟩) 1 1) [.slice A2 (frameB gen pay).length c2] := by
        refine ⟨some ⟨w2.heap.size, 0, none⟩, 1, rfl, by simp, by simp [maxLen], fun _ => ⟨w2.heap.size, 0, rfl, ⟨by simp, fun hf => by have := hFl _ hf; omega⟩, fun i hi => ?_⟩⟩
        have : i = 0 := by simp at hi; omega
        subst this
        simp
      refine ⟨[.slice A2 (frameB gen pay).length c2], rfl, hst, fun i hi => ?_⟩
      have : i = 0 := by simp at hi; omega
      subst this
      exact (Own.outS (HU2.out.alloc (.cells #[.slice A2 (frameB gen pay).length c2] 22)) (F := F) (fun k hk => by have := hFl k hk; exact this))
    have hap := append_any _ p st F (HF.out.keep fun k hk => hb3.block k (HF.out.lt k hk)) ⟨#[108, 111, 103]⟩ (by decide) _ _ hrows (by
      have := HM.out
      rw [show [frameB gen pay].flatten.length = 12 + pay.length by simp [frameB_length]]
      exact this)
    rw [show (ByteArray.mk #[108, 111, 103]).data.toList = nLog from rfl, show [frameB gen pay].flatten = frameB gen pay by simp] at hap
    refine hap.mono ?_
    rintro e w4 ⟨F', rfl, h1, h2, h3⟩
    have hk4 : Kept F w w4 := (Kept.of_below (F := F) hb3).trans h2 (Grows.refl _ _)
    have hg4 : Grows w F F' := fun k hk => (h3 k hk).imp id (fun h => by have := hb3.size; omega)
    have hs4 : w4.cell? ⟨pj, 0, none⟩ = some (.pointer (some ⟨p, 0, none⟩)) ∧ w4.cell? ⟨pj, 1, none⟩ = some (.int .u32 (gen : Nat)) := ⟨(World.cell?_of_block (a := ⟨pj, 0, none⟩) (hk4.block pj HPJ.out.1 HPJ.out.2)).trans HS0.out.1, (World.cell?_of_block (a := ⟨pj, 1, none⟩) (hk4.block pj HPJ.out.1 HPJ.out.2)).trans HS0.out.2⟩
    have HR : Hid (∃ F', Fsy w4 p (stAppend st nLog (frameB gen pay)).1 F' ∧ Kept F w w4 ∧ Grows w F F') := Lib.hid ⟨F', h1, hk4, hg4⟩
    clear hap hrows hb3 h1 h2 h3 hk4 hg4
    refine hK _ _ ⟨hs4, ?_⟩
    clear hK K
    refine wpAnyH_all (rs := [12]) (by kernel_rfl) (by simp) ?_
    intro i hi
    simp only [List.mem_cons, List.not_mem_nil, or_false] at hi
    subst hi
    refine wpOp_of rfl rfl (fun K hK => ?_)
    go_simp
    refine hK _ _ ⟨hs4, ?_⟩
    clear hK K
    refine wpAnyH_done (by kernel_rfl) ?_ _
    go_wp2
    go_meet
    exact ⟨rfl, HR⟩
  case rest =>
    obtain ⟨rfl, HR⟩ := hcut
    have HAR : Hid (jAppend st gen log pay = ((stAppend st nLog (frameB gen pay)).1, (stAppend st nLog (frameB gen pay)).2, if (stAppend st nLog (frameB gen pay)).2 = 0 then log ++ [pay] else log)) := Lib.hid rfl
    clear HS0 HBZ HFR
    obtain ⟨F', hF', hK4, hG4⟩ := HR.out
    generalize stAppend st nLog (frameB gen pay) = r at *
    obtain ⟨st', er⟩ := r
    simp only at hF' HAR ⊢
    have hj4 := HJ.out.kept hK4 HH.out.apart
    have HF4 := Lib.hid hF'; have HK4 := Lib.hid hK4; have HG4 := Lib.hid hG4; have HJ4 := Lib.hid hj4
    obtain ⟨⟨c0, c1, c2, c3⟩, -, -, cf3⟩ := hj4.cells
    have hpj4 : pj < wc.heap.size := hj4.lt _ hj4.gpj
    clear hF' hK4 hG4 hj4 HR
    by_cases he : er = 0
    · subst he
      have HAE : Hid (jAppend st gen log pay = (st', 0, log ++ [pay])) := Lib.hid (by rw [HAR.out]; simp)
      obtain ⟨A1, c1', hlvf⟩ := Own.formR HJ.out.lown
      obtain ⟨NL, hNL⟩ : ∃ NL, NL = log.length := ⟨_, rfl⟩
      rw [← hNL] at hlvf
      have HNL := Lib.hid hNL
      have HLEN : Hid (us.length = NL) := Lib.hid (by rw [hNL]; have := HJ.out.lown.1; simpa using this)
      have HNP : Hid (lv.ownBlock ≠ some pj) := Lib.hid fun e => (HJ.out.gl _ e).2.1 rfl
      subst hlvf
      have hcl : Calls Tryz.prog 44 #[.slice A pay.length c] wc.drew fun e w2 => ∃ A2 c2, e = .returned (.slice A2 pay.length c2) ∧ Hid (Par.Own w2 wc.heap.size 5 (.slice A2 pay.length c2) (byteCells pay)) ∧ Hid (Below wc.heap.size wc w2) ∧ w2.cell? ⟨pj, 3, none⟩ = some (.slice A1 NL c1') := by
        have h0 : Seg wc wc.heap.size (.slice A pay.length c) (byteCells pay) := (HVS.out.keep (S' := (· < wc.heap.size)) fun k hk => ⟨by have := HK4.out.size; omega, HK4.out.block k hk.1 hk.2⟩).seg fun k hk => hk
        refine (clone_seg _ pay wc.drew h0 (by have := HP.out; omega)).mono ?_
        rintro e w2 ⟨u2, rfl, hu2, hb2⟩
        obtain ⟨A2, c2, hf2⟩ := hu2.form
        rw [byteCells_length] at hf2
        subst hf2
        have hb3 : Below wc.heap.size wc w2 := ((Below.refl _ wc).drew).trans hb2
        exact ⟨A2, c2, rfl, Lib.hid hu2, Lib.hid hb3, (hb3.cell (p := ⟨pj, 3, none⟩) hpj4).trans c3⟩
      have HCL := Lib.hid hcl
      have HJ4' := Lib.hid (HJ4.out.go ((Below.refl _ wc).drew))
      clear hNL c0 c1 c2 hcl
      go_upto_region 6 with fail
      refine wp_region_held (S := fun _ => True) (by kernel_rfl) ?_
      refine wpAnyH_take (i := 0) (v := .pointer (some ⟨pj, 0, none⟩)) rfl (by kernel_rfl) (by kernel_rfl) (by kernel_rfl) (fun _ _ _ h => h) (Or.inl ⟨by rfl, fun w' hS => by go_simp⟩) trivial ?_
      refine wpAnyH_take (i := 1) (v := .pointer (some ⟨pj, 0, none⟩)) rfl (by kernel_rfl) (by kernel_rfl) (by kernel_rfl) (fun _ _ _ h => h) (Or.inl ⟨by rfl, fun w' hS => by go_simp⟩) trivial ?_
      refine wpAnyH_take (i := 2) (v := .pointer (some ⟨pj, 0, none⟩)) rfl (by kernel_rfl) (by kernel_rfl) (by kernel_rfl) (fun _ _ _ h => h) (Or.inl ⟨by rfl, fun w' hS => by go_simp⟩) trivial ?_
      refine wpAnyH_take (i := 3) (v := .pointer (some ⟨pj, 3, none⟩)) rfl (by kernel_rfl) (by kernel_rfl) (by kernel_rfl) (fun _ _ _ h => h) (Or.inl ⟨by rfl, fun w' hS => by go_simp⟩) trivial ?_
      refine wpAnyH_take (i := 5) (v := .slice A pay.length c) rfl (by kernel_rfl) (by kernel_rfl) (by kernel_rfl) (fun _ _ _ h => h) (Or.inl ⟨by rfl, fun w' hS => by go_simp⟩) trivial ?_
      refine wpAnyH_all (rs := [4, 6]) (by kernel_rfl) (by simp) ?_
      intro i hi
      simp only [List.mem_cons, List.not_mem_nil, or_false] at hi
      rcases hi with rfl | rfl
      · refine wpOp_of rfl rfl (fun K hK => ?_)
        go_simp
        refine hK _ _ ⟨trivial, ?_⟩
        clear hK K
        refine wpAnyH_all (rs := [6]) (by kernel_rfl) (by simp) ?_
        intro i hi
        simp only [List.mem_cons, List.not_mem_nil, or_false] at hi
        subst hi
        refine wpOp_of rfl rfl (fun K hK => ?_)
        go_simp
        refine HCL.out.mono ?_
        rintro e w2 ⟨A2, c2, rfl, HU2, HB2, q3⟩
        refine hK _ _ ⟨trivial, ?_⟩
        clear hK K
        have q3' := Lib.cell?_alloc_some (.cells #[.slice A2 pay.length c2] 22) q3
        refine wpAnyH_all (rs := [7]) (by kernel_rfl) (by simp) ?_
        intro i hi
        simp only [List.mem_cons, List.not_mem_nil, or_false] at hi
        subst hi
        refine wpOp_of rfl rfl (fun K hK => ?_)
        go_simp
        refine hK _ _ ⟨trivial, ?_⟩
        clear hK K
        refine wpAnyH_all (rs := [8]) (by kernel_rfl) (by simp) ?_
        intro i hi
        simp only [List.mem_cons, List.not_mem_nil, or_false] at hi
        subst hi
        refine wpOp_of rfl rfl (fun K hK => ?_)
        have HB4 : Hid (Below wc.heap.size wc (w2.alloc (.cells #[.slice A2 pay.length c2] 22))) := Lib.hid (HB2.out.alloc HB2.out.size _)
        have hown4 : Par.Own (w2.alloc (.cells #[.slice A2 pay.length c2] 22)) 0 22 (.slice A1 NL c1') us := by
          have := (HJ4.out.go HB4.out).lown
          rw [← HNL.out] at this
          unfold Par.Own
          rw [HLEN.out]
          exact this
        refine wp_app _ (.tmp 28) (.tmp 31) 38 rfl 0 22 _ rowE (.slice A1 NL c1') us rfl hown4 _ _ [.slice A2 pay.length c2] rfl (Seg.new w2 22 #[.slice A2 pay.length c2] [.slice A2 pay.length c2] rfl (by simp [maxLen])) (fun y hy => by simp at hy; subst hy; rfl) (by have := HLEN.out; have := HLL.out; have := HNL.out; simp only [List.length_cons, List.length_nil]; omega) (Nat.zero_le _) (fun v3 w5 h2 h3 h4 => ?_)
        have HPU : Hid (JPost w pj p F G st' gen base (log ++ [pay]) (w5.setCell ⟨pj, 3, none⟩ v3)) := Lib.hid (by
          have hr3 : w5.ownsRow 0 22 1 v3 (log.length + 1) (us ++ [.slice A2 pay.length c2]) := by have := h2; unfold Par.Own at this; rw [List.length_append, HLEN.out, HNL.out] at this; exact this
          exact JPost.push HH.out HJ.out HF4.out HK4.out HG4.out HB4.out (HU2.out.alloc _) hr3 h3 h4)
        have hcf : w5.frozen? ⟨pj, 3, none⟩ = false := by
          have hh3 := h3.block pj (by have := HB4.out.size; omega) (fun e => HNP.out e.symm)
          have hj5 := hh3.trans ((HB4.out.block pj hpj4).trans HJ4.out.head)
          exact (four_cells hj5).2.2.2
        have hc5 : w5.cell? ⟨pj, 3, none⟩ = some (.slice A1 NL c1') := grown_cell h3 q3' (fun e => HNP.out e)
        refine hK _ _ ⟨trivial, ?_⟩
        obtain ⟨A3, c3', hf3⟩ := h2.form
        have hf3' : v3 = .slice A3 (us.length + 1) c3' := by rw [hf3, List.length_append]; rfl
        clear hK K h2 h3 h4 hown4 hf3
        subst hf3'
        refine wpAnyH_take (i := 9) (v := .pointer (some ⟨pj, 0, none⟩)) rfl (by kernel_rfl) (by kernel_rfl) (by kernel_rfl) (fun _ _ _ h => h) (Or.inl ⟨by rfl, fun w' hS => by go_simp⟩) trivial ?_
        refine wpAnyH_take (i := 10) (v := .pointer (some ⟨pj, 3, none⟩)) rfl (by kernel_rfl) (by kernel_rfl) (by kernel_rfl) (fun _ _ _ h => h) (Or.inl ⟨by rfl, fun w' hS => by go_simp⟩) trivial ?_
        refine wpAnyH_all (rs := [11]) (by kernel_rfl) (by simp) ?_
        intro i hi
        simp only [List.mem_cons, List.not_mem_nil, or_false] at hi
        subst hi
        refine wpOp_of rfl rfl (fun K hK => ?_)
        go_simp
        refine hK _ _ ⟨trivial, ?_⟩
        clear hK K
        refine wpAnyH_done (by kernel_rfl) ?_ _
        clear hc5 hcf q3 q3'
        go_wp2
        go_ret
        rw [HAE.out]
        exact ⟨rfl, HPU.out⟩
      · refine wpOp_of rfl rfl (fun K hK => ?_)
        go_simp
        refine HCL.out.mono ?_
        rintro e w2 ⟨A2, c2, rfl, HU2, HB2, q3⟩
        refine hK _ _ ⟨trivial, ?_⟩
        clear hK K
        have q3' := Lib.cell?_alloc_some (.cells #[.slice A2 pay.length c2] 22) q3
        refine wpAnyH_all (rs := [4, 7]) (by kernel_rfl) (by simp) ?_
        intro i hi
        simp only [List.mem_cons, List.not_mem_nil, or_false] at hi
        rcases hi with rfl | rfl
        · refine wpOp_of rfl rfl (fun K hK => ?_)
          go_simp
          refine hK _ _ ⟨trivial, ?_⟩
          clear hK K
          refine wpAnyH_all (rs := [7]) (by kernel_rfl) (by simp) ?_
          intro i hi
          simp only [List.mem_cons, List.not_mem_nil, or_false] at hi
          subst hi
          refine wpOp_of rfl rfl (fun K hK => ?_)
          go_simp
          refine hK _ _ ⟨trivial, ?_⟩
          clear hK K
          refine wpAnyH_all (rs := [8]) (by kernel_rfl) (by simp) ?_
          intro i hi
          simp only [List.mem_cons, List.not_mem_nil, or_false] at hi
          subst hi
          refine wpOp_of rfl rfl (fun K hK => ?_)
          have HB4 : Hid (Below wc.heap.size wc (w2.alloc (.cells #[.slice A2 pay.length c2] 22))) := Lib.hid (HB2.out.alloc HB2.out.size _)
          have hown4 : Par.Own (w2.alloc (.cells #[.slice A2 pay.length c2] 22)) 0 22 (.slice A1 NL c1') us := by
            have := (HJ4.out.go HB4.out).lown
            rw [← HNL.out] at this
            unfold Par.Own
            rw [HLEN.out]
            exact this
          refine wp_app _ (.tmp 28) (.tmp 31) 38 rfl 0 22 _ rowE (.slice A1 NL c1') us rfl hown4 _ _ [.slice A2 pay.length c2] rfl (Seg.new w2 22 #[.slice A2 pay.length c2] [.slice A2 pay.length c2] rfl (by simp [maxLen])) (fun y hy => by simp at hy; subst hy; rfl) (by have := HLEN.out; have := HLL.out; have := HNL.out; simp only [List.length_cons, List.length_nil]; omega) (Nat.zero_le _) (fun v3 w5 h2 h3 h4 => ?_)
          have HPU : Hid (JPost w pj p F G st' gen base (log ++ [pay]) (w5.setCell ⟨pj, 3, none⟩ v3)) := Lib.hid (by
            have hr3 : w5.ownsRow 0 22 1 v3 (log.length + 1) (us ++ [.slice A2 pay.length c2]) := by have := h2; unfold Par.Own at this; rw [List.length_append, HLEN.out, HNL.out] at this; exact this
            exact JPost.push HH.out HJ.out HF4.out HK4.out HG4.out HB4.out (HU2.out.alloc _) hr3 h3 h4)
          have hcf : w5.frozen? ⟨pj, 3, none⟩ = false := by
            have hh3 := h3.block pj (by have := HB4.out.size; omega) (fun e => HNP.out e.symm)
            have hj5 := hh3.trans ((HB4.out.block pj hpj4).trans HJ4.out.head)
            exact (four_cells hj5).2.2.2
          have hc5 : w5.cell? ⟨pj, 3, none⟩ = some (.slice A1 NL c1') := grown_cell h3 q3' (fun e => HNP.out e)
          refine hK _ _ ⟨trivial, ?_⟩
          obtain ⟨A3, c3', hf3⟩ := h2.form
          have hf3' : v3 = .slice A3 (us.length + 1) c3' := by rw [hf3, List.length_append]; rfl
          clear hK K h2 h3 h4 hown4 hf3
          subst hf3'
          refine wpAnyH_take (i := 9) (v := .pointer (some ⟨pj, 0, none⟩)) rfl (by kernel_rfl) (by kernel_rfl) (by kernel_rfl) (fun _ _ _ h => h) (Or.inl ⟨by rfl, fun w' hS => by go_simp⟩) trivial ?_
          refine wpAnyH_take (i := 10) (v := .pointer (some ⟨pj, 3, none⟩)) rfl (by kernel_rfl) (by kernel_rfl) (by kernel_rfl) (fun _ _ _ h => h) (Or.inl ⟨by rfl, fun w' hS => by go_simp⟩) trivial ?_
          refine wpAnyH_all (rs := [11]) (by kernel_rfl) (by simp) ?_
          intro i hi
          simp only [List.mem_cons, List.not_mem_nil, or_false] at hi
          subst hi
          refine wpOp_of rfl rfl (fun K hK => ?_)
          go_simp
          refine hK _ _ ⟨trivial, ?_⟩
          clear hK K
          refine wpAnyH_done (by kernel_rfl) ?_ _
          clear hc5 hcf q3 q3'
          go_wp2
          go_ret
          rw [HAE.out]
          exact ⟨rfl, HPU.out⟩
        · refine wpOp_of rfl rfl (fun K hK => ?_)
          go_simp
          refine hK _ _ ⟨trivial, ?_⟩
          clear hK K
          refine wpAnyH_all (rs := [4]) (by kernel_rfl) (by simp) ?_
          intro i hi
          simp only [List.mem_cons, List.not_mem_nil, or_false] at hi
          subst hi
          refine wpOp_of rfl rfl (fun K hK => ?_)
          go_simp
          refine hK _ _ ⟨trivial, ?_⟩
          clear hK K
          refine wpAnyH_all (rs := [8]) (by kernel_rfl) (by simp) ?_
          intro i hi
          simp only [List.mem_cons, List.not_mem_nil, or_false] at hi
          subst hi
          refine wpOp_of rfl rfl (fun K hK => ?_)
          have HB4 : Hid (Below wc.heap.size wc (w2.alloc (.cells #[.slice A2 pay.length c2] 22))) := Lib.hid (HB2.out.alloc HB2.out.size _)
          have hown4 : Par.Own (w2.alloc (.cells #[.slice A2 pay.length c2] 22)) 0 22 (.slice A1 NL c1') us := by
            have := (HJ4.out.go HB4.out).lown
            rw [← HNL.out] at this
            unfold Par.Own
            rw [HLEN.out]
            exact this
          refine wp_app _ (.tmp 28) (.tmp 31) 38 rfl 0 22 _ rowE (.slice A1 NL c1') us rfl hown4 _ _ [.slice A2 pay.length c2] rfl (Seg.new w2 22 #[.slice A2 pay.length c2] [.slice A2 pay.length c2] rfl (by simp [maxLen])) (fun y hy => by simp at hy; subst hy; rfl) (by have := HLEN.out; have := HLL.out; have := HNL.out; simp only [List.length_cons, List.length_nil]; omega) (Nat.zero_le _) (fun v3 w5 h2 h3 h4 => ?_)
          have HPU : Hid (JPost w pj p F G st' gen base (log ++ [pay]) (w5.setCell ⟨pj, 3, none⟩ v3)) := Lib.hid (by
            have hr3 : w5.ownsRow 0 22 1 v3 (log.length + 1) (us ++ [.slice A2 pay.length c2]) := by have := h2; unfold Par.Own at this; rw [List.length_append, HLEN.out, HNL.out] at this; exact this
            exact JPost.push HH.out HJ.out HF4.out HK4.out HG4.out HB4.out (HU2.out.alloc _) hr3 h3 h4)
          have hcf : w5.frozen? ⟨pj, 3, none⟩ = false := by
            have hh3 := h3.block pj (by have := HB4.out.size; omega) (fun e => HNP.out e.symm)
            have hj5 := hh3.trans ((HB4.out.block pj hpj4).trans HJ4.out.head)
            exact (four_cells hj5).2.2.2
          have hc5 : w5.cell? ⟨pj, 3, none⟩ = some (.slice A1 NL c1') := grown_cell h3 q3' (fun e => HNP.out e)
          refine hK _ _ ⟨trivial, ?_⟩
          obtain ⟨A3, c3', hf3⟩ := h2.form
          have hf3' : v3 = .slice A3 (us.length + 1) c3' := by rw [hf3, List.length_append]; rfl
          clear hK K h2 h3 h4 hown4 hf3
          subst hf3'
          refine wpAnyH_take (i := 9) (v := .pointer (some ⟨pj, 0, none⟩)) rfl (by kernel_rfl) (by kernel_rfl) (by kernel_rfl) (fun _ _ _ h => h) (Or.inl ⟨by rfl, fun w' hS => by go_simp⟩) trivial ?_
          refine wpAnyH_take (i := 10) (v := .pointer (some ⟨pj, 3, none⟩)) rfl (by kernel_rfl) (by kernel_rfl) (by kernel_rfl) (fun _ _ _ h => h) (Or.inl ⟨by rfl, fun w' hS => by go_simp⟩) trivial ?_
          refine wpAnyH_all (rs := [11]) (by kernel_rfl) (by simp) ?_
          intro i hi
          simp only [List.mem_cons, List.not_mem_nil, or_false] at hi
          subst hi
          refine wpOp_of rfl rfl (fun K hK => ?_)
          go_simp
          refine hK _ _ ⟨trivial, ?_⟩
          clear hK K
          refine wpAnyH_done (by kernel_rfl) ?_ _
          clear hc5 hcf q3 q3'
          go_wp2
          go_ret
          rw [HAE.out]
          exact ⟨rfl, HPU.out⟩
    · have HAE : Hid (jAppend st gen log pay = (st', er, log)) := Lib.hid (by rw [HAR.out, if_neg he])
      have heb : (er != 0) = true := by simpa using he
      clear c0 c1 c2 c3 cf3 he
      go_wp2
      go_ret
      rw [HAE.out]
      exact ⟨rfl, F', G, ⟨HF4.out, ⟨bv, lv, bs, us, HJ4.out⟩, fun k hk hk2 => by
        rcases HG4.out k hk2 with h1 | h1
        · exact HH.out.apart k hk h1
        · have := HJ.out.lt k hk; omega⟩, HK4.out.mono fun k _ hk => .inl hk, HG4.out, Grows.refl _ _⟩
end Go.Proofs.YtpdelgjfamelfaaGreat
