/- Index: Remove. -/
import Derived.Test.YtaalbcfpacpgfaaGreatI14
import Derived.Test.YtaalbcfpacpgfaaGreatJF
namespace Go.Proofs.YtaalbcfpacpgfaaGreat
open Go.RowKit Go.Lib Go.Vfs Go.Par Go.Typ Go.Shelf Go.Ix
set_option linter.unusedVariables false
set_option linter.unusedSimpArgs false

/-- Remove, plain. -/
def rmvX (st : St) (gen : Nat) (log : List (List UInt8)) (es : List En) (s : ByteArray) : St × Int × List (List UInt8) × List En :=
  match findL keyE s.data.toList es with
  | none => (st, 221, log, es)
  | some _ => ((jAppend st gen log (remE s)).1, (jAppend st gen log (remE s)).2.1, (jAppend st gen log (remE s)).2.2, if (jAppend st gen log (remE s)).2.1 = 0 then dropL keyE s.data.toList es else es)
theorem rmvX_none {st : St} {gen : Nat} {log : List (List UInt8)} {es : List En} {s : ByteArray} (h : findL keyE s.data.toList es = none) : rmvX st gen log es s = (st, 221, log, es) := by unfold rmvX; rw [h]
theorem rmvX_some {st : St} {gen : Nat} {log : List (List UInt8)} {es : List En} {s : ByteArray} {e : En} (h : findL keyE s.data.toList es = some e) : rmvX st gen log es s = ((jAppend st gen log (remE s)).1, (jAppend st gen log (remE s)).2.1, (jAppend st gen log (remE s)).2.2, if (jAppend st gen log (remE s)).2.1 = 0 then dropL keyE s.data.toList es else es) := by unfold rmvX; rw [h]

set_option maxRecDepth 20000 in
set_option maxHeartbeats 4000000 in
theorem ixremove_any (w : World) (px p gen : Nat) (st : St) (base log : List (List UInt8)) (es : List En) (F H S : Nat → Prop) (h : XF w px p st gen base log es F H S) (hg : Ix.Good es) (s : ByteArray) (hs : s.size ≤ 9223372036854775807)
    (hm : Modest st 100) (hll : log.length ≤ 1000000) :
    Calls Tryz.prog 28 #[.pointer (some ⟨px, 0, none⟩), .string s] w fun e w' => e = .returned (.int .i64 (rmvX st gen log es s).2.1) ∧ XPost w px p F H S (rmvX st gen log es s).1 gen base (rmvX st gen log es s).2.2.1 (rmvX st gen log es s).2.2.2 w' := by
  have HXF := Lib.hid h
  obtain ⟨pj, mb, xs, G, hj, hi, he, hH, hS, hn⟩ := h
  subst he
  obtain ⟨P, hP⟩ : ∃ P : Ending → World → Prop, P = fun e w' => e = .returned (.int .i64 (rmvX st gen log (xs.map (·.e)) s).2.1) ∧ XPost w px p F H S (rmvX st gen log (xs.map (·.e)) s).1 gen base (rmvX st gen log (xs.map (·.e)) s).2.2.1 (rmvX st gen log (xs.map (·.e)) s).2.2.2 w' := ⟨_, rfl⟩
  have HPO := Lib.hid hP
  rw [← hP]
  have hlt := hi.lt
  obtain ⟨A, c, hv, -, -⟩ := valX_at hi s.data.toList
  have hlook := hi.look2 s hs
  unfold enV at hv
  rw [hv] at hlook
  have hmf := map_findX s.data.toList xs
  obtain ⟨E, hE⟩ : ∃ E, E = foundE (xs.map (·.e)) s.data.toList := ⟨_, rfl⟩
  rw [← hE] at hlook
  have p1 : w.cell? ⟨px, 1, none⟩ = some (.map (some mb)) := by simp [World.cell?, hi.head]
  obtain ⟨W1, hW1⟩ : ∃ W1, W1 = w.alloc (.cells #[.string E.uri, .int .i64 E.ver, .slice A E.exs.length c] 55) := ⟨_, rfl⟩
  have hb1 : Below w.heap.size w W1 := by rw [hW1]; exact (Below.refl _ _).alloc (Nat.le_refl _) _
  have HB1 := Lib.hid hb1; have HJ := Lib.hid hj; have HI := Lib.hid hi; have HH := Lib.hid hH; have HS := Lib.hid hS; have HN := Lib.hid hn; have HL := Lib.hid hlt; have HM := Lib.hid hm; have HG := Lib.hid hg
  cases hf : findL keyX s.data.toList xs with
  | none =>
    rw [hf] at hlook hmf
    have HE : Hid (P (.returned (.int .i64 221)) W1) := Lib.hid (by
      rw [HPO.out, rmvX_none hmf]
      exact ⟨rfl, XPost.same HXF.out hb1⟩)
    clear hP hj hi hH hS hn hlt hm hg hmf hE hv hb1 hf
    go_enter Tryz.func28, Tryz.ntmps28
    go_wp2
    rw [← hW1]
    exact HE.out
  | some x =>
    rw [hf] at hlook hmf
    have hxe : okE x.e = true := hg.ok x.e (List.mem_map_of_mem (findL_some hf).1)
    have hss : s.size = x.e.uri.size := by
      have h1 := (findL_some hf).2
      have h2 := ba_len s
      have h3 := ba_len x.e.uri
      rw [← h2, ← h3, ← h1]; rfl
    have hs64 : 1 ≤ s.size ∧ s.size ≤ 64 := by rw [hss]; exact okE_uri hxe
    have hrl : (remE s).length = 2 + s.size := by have := ba_len s; unfold remE; simp only [List.length_append, this]; rfl
    have HRM : Hid (∀ W, Calls Tryz.prog 67 #[.string s] W fun e w' => ∃ A2 c2, e = .returned (.slice A2 (remE s).length c2) ∧ Par.Own w' W.heap.size 5 (.slice A2 (remE s).length c2) (byteCells (remE s)) ∧ Below W.heap.size W w') := Lib.hid fun W => by
      refine (removal_any s hs64.2 W).mono ?_
      rintro e w' ⟨v, rfl, ho, hb⟩
      obtain ⟨A2, c2, hf2⟩ := ho.form
      rw [byteCells_length] at hf2
      subst hf2
      exact ⟨A2, c2, rfl, ho, hb⟩
    have HRX := Lib.hid (rmvX_some (st := st) (gen := gen) (log := log) (es := xs.map (·.e)) (s := s) (e := x.e) hmf)
    have HRL := Lib.hid hrl; have HS64 := Lib.hid hs64
    have hix1 : IxAt W1 px pj mb xs S := hi.keep (hb1.block _ hlt.1) (hb1.block _ hlt.2) (fun b hk => hb1.block b (hS b hk).1)
    have HIX1 := Lib.hid hix1
    have hz1 := hb1.size
    have q0 : ∀ W', Below W1.heap.size W1 W' → W'.cell? ⟨px, 0, none⟩ = some (.pointer (some ⟨pj, 0, none⟩)) := fun W' hb => by
      have : W'.heap[px]? = _ := (hb.block px (by omega)).trans hix1.head
      simp [World.cell?, this]
    have HQ0 := Lib.hid q0
    have HS0 := Lib.hid (q0 W1.drew (Below.refl _ _).drew)
    clear hP hj hi hH hS hn hlt hm hg hmf hE hv hb1 hf hxe hss hs64 hrl hix1 q0
    go_enter Tryz.func28, Tryz.ntmps28
    go_wp2_with fail
    rw [← hW1]
    clear hW1 p1 hlook
    refine wp_region_held (S := (fun w2 : World => w2.cell? ⟨px, 0, none⟩ = some (.pointer (some ⟨pj, 0, none⟩)))) (by kernel_rfl) ?_
    refine takeD (i := 0) (s := 19) (v := .pointer (some ⟨px, 0, none⟩)) rfl rfl (by kernel_rfl) (by kernel_rfl) (by kernel_rfl) (fun _ _ _ h => h) (Or.inl ⟨by rfl, fun w' hS => by go_simp⟩) HS0.out ?_
    try simp only [List.setIfInBounds_toArray, List.set_cons_zero, List.set_cons_succ]
    refine takeD (i := 1) (s := 20) (v := .pointer (some ⟨px, 0, none⟩)) rfl rfl (by kernel_rfl) (by kernel_rfl) (by kernel_rfl) (fun _ _ _ h => h) (Or.inl ⟨by rfl, fun w' hS => by go_simp⟩) HS0.out ?_
    try simp only [List.setIfInBounds_toArray, List.set_cons_zero, List.set_cons_succ]
    refine takeD (i := 2) (s := 21) (v := .pointer (some ⟨px, 0, none⟩)) rfl rfl (by kernel_rfl) (by kernel_rfl) (by kernel_rfl) (fun _ _ _ h => h) (Or.inl ⟨by rfl, fun w' hS => by go_simp⟩) HS0.out ?_
    try simp only [List.setIfInBounds_toArray, List.set_cons_zero, List.set_cons_succ]
    refine takeD (i := 3) (s := 22) (v := .pointer (some ⟨pj, 0, none⟩)) rfl rfl (by kernel_rfl) (by kernel_rfl) (by kernel_rfl) (fun _ _ _ h => h) (Or.inl ⟨by rfl, fun w' hS => by go_simp⟩) HS0.out ?_
    try simp only [List.setIfInBounds_toArray, List.set_cons_zero, List.set_cons_succ]
    refine takeD (i := 4) (s := 23) (v := .string s) rfl rfl (by kernel_rfl) (by kernel_rfl) (by kernel_rfl) (fun _ _ _ h => h) (Or.inl ⟨by rfl, fun w' hS => by go_simp⟩) HS0.out ?_
    try simp only [List.setIfInBounds_toArray, List.set_cons_zero, List.set_cons_succ]
    refine wpAnyH_all (rs := [5]) (by kernel_rfl) (by simp) ?_
    intro i hi
    simp only [List.mem_cons, List.not_mem_nil, or_false] at hi
    subst hi
    refine wpOp_ofQ rfl rfl (fun K hK => ?_)
    go_simp
    refine (HRM.out W1.drew).mono ?_
    rintro e w2 ⟨A2, c2, rfl, ho2, hb2⟩
    have hb2' : Below W1.heap.size W1 w2 := ((Below.refl _ W1).drew).trans hb2
    have hz2 := hb2'.size
    have hbw : Below w.heap.size w w2 := HB1.out.trans (hb2'.mono hz1)
    have HBW := Lib.hid hbw
    have HS2 := Lib.hid (HQ0.out w2 hb2')
    have hl := HL.out
    have HIX2 : Hid (IxAt w2 px pj mb xs S) := Lib.hid (HI.out.keep (hbw.block _ hl.1) (hbw.block _ hl.2) (fun b hk => hbw.block b (HS.out b hk).1))
    have HAP := Lib.hid (jappend_any (HJ.out.below hbw) (.slice A2 (remE s).length c2) (remE s) (by
      have h1 := Own.outS ho2 (F := fun k => k < W1.heap.size) (fun k hk => hk)
      exact h1.keep fun b hb => ⟨⟨hb.1, fun hf => hb.2 (by have := HJ.out.fs.lt b hf; show b < W1.heap.size; omega)⟩, rfl⟩) (by have := HRL.out; have := HS64.out; omega) (by
      have h := HM.out
      have := HRL.out; have := HS64.out
      exact ⟨fun f hf => by have := h.1 f hf; omega, by have := h.2.1; omega, h.2.2.1, h.2.2.2⟩) hll)
    clear ho2 hb2 hbw
    refine hK _ _ ⟨HS2.out, ?_⟩
    clear hK K
    try simp only [List.setIfInBounds_toArray, List.set_cons_zero, List.set_cons_succ]
    refine wpAnyH_all (rs := [6]) (by kernel_rfl) (by simp) ?_
    intro i hi
    simp only [List.mem_cons, List.not_mem_nil, or_false] at hi
    subst hi
    refine wpOp_ofQ rfl rfl (fun K hK => ?_)
    go_simp
    refine HAP.out.mono ?_
    rintro e w3 ⟨rfl, hjp⟩
    obtain ⟨hpost, hix3⟩ := XPost.journal HBW.out HIX2.out HH.out HS.out HN.out HL.out hjp
    have HS3 : Hid (w3.cell? ⟨px, 0, none⟩ = some (.pointer (some ⟨pj, 0, none⟩))) := Lib.hid (by simp [World.cell?, hix3.head])
    have HPOST := Lib.hid hpost; have HIX3 := Lib.hid hix3; have HJP := Lib.hid hjp
    clear hpost hix3 hjp
    obtain ⟨r, hr⟩ : ∃ r, r = (jAppend st gen log (remE s)).2.1 := ⟨_, rfl⟩
    rw [← hr]
    have HR := Lib.hid hr
    clear hr
    refine hK _ _ ⟨HS3.out, ?_⟩
    clear hK K
    try simp only [List.setIfInBounds_toArray, List.set_cons_zero, List.set_cons_succ]
    refine takeD (i := 7) (s := 7) (v := .int .i64 r) rfl rfl (by kernel_rfl) (by kernel_rfl) (by kernel_rfl) (fun _ _ _ h => h) (Or.inl ⟨by rfl, fun w' hS => by go_simp⟩) HS3.out ?_
    try simp only [List.setIfInBounds_toArray, List.set_cons_zero, List.set_cons_succ]
    refine wpAnyH_done (by kernel_rfl) ?_ _
    by_cases hr0 : r = 0
    rotate_left
    · have hne : (r != 0) = true := by simpa using hr0
      have HE : Hid (P (.returned (.int .i64 r)) w3) := Lib.hid (by
        rw [HPO.out, HRX.out]
        simp only
        rw [← HR.out, if_neg hr0]
        exact ⟨rfl, HPOST.out⟩)
      go_wp2
      exact HE.out
    have HR0 : Hid ((jAppend st gen log (remE s)).2.1 = 0) := Lib.hid (by rw [← HR.out, hr0])
    subst hr0
    obtain ⟨F3, G3, hj3, hk3, hgF, hgG⟩ := HJP.out
    have hzb := HBW.out.size
    have hz3 := hk3.size
    have hnn := HN.out
    have hl := HL.out
    have p1 : w3.cell? ⟨px, 1, none⟩ = some (.map (some mb)) := by simp [World.cell?, HIX3.out.head]
    obtain ⟨w5, hrun, hix5, hk5, hz5⟩ := HIX3.out.del s hs 0
    have HE : Hid (P (.returned (.int .i64 0)) w5) := Lib.hid (by
      rw [HPO.out, HRX.out]
      simp only
      rw [HR0.out, if_pos rfl]
      refine ⟨rfl, ?_⟩
      rw [← map_dropX]
      refine XPost.turned (F' := F3) (G' := G3) hj3 ((Kept.of_below HBW.out).trans' (hk3.mono fun k _ h => h.imp id fun hg => (HH.out k).2 (.inl hg))) (fun k hk => (hgF k hk).imp id fun h => by omega) (fun k hk => by
        rcases hgG k hk with h | h
        · exact .inl ((HH.out k).2 (.inl h))
        · right; omega) ⟨fun h => ?_, fun h => ?_, fun h => ?_, fun h => ?_⟩ ⟨(HH.out _).2 (.inr (.inl rfl)), (HH.out _).2 (.inr (.inr rfl))⟩ hix5 hk5 (fun k hk => ?_)
      · rcases hgF _ h with h | h
        · exact hnn.1 h
        · omega
      · rcases hgF _ h with h | h
        · exact hnn.2.1 h
        · omega
      · rcases hgG _ h with h | h
        · exact hnn.2.2.1 h
        · omega
      · rcases hgG _ h with h | h
        · exact hnn.2.2.2 h
        · omega
      · obtain ⟨s1, s2, s3⟩ := HS.out k hk
        have hh := fun h => s3 ((HH.out k).2 h)
        refine ⟨.inl hk, by omega, fun h => ?_, fun h => ?_, fun h => hh (.inr (.inl h)), fun h => hh (.inr (.inr h))⟩
        · rcases hgF _ h with h | h
          · exact s2 h
          · omega
        · rcases hgG _ h with h | h
          · exact hh (.inl h)
          · omega)
    clear hj3 hk3 hgF hgG hix5 hk5 hnn
    go_wp2
    exact HE.out
end Go.Proofs.YtaalbcfpacpgfaaGreat
