import Derived.Test.YtpdelgjfamelfaaVS
namespace Go.Proofs.Ytpdelgjfamelfaa
open Go.RowKit Go.Lib Go.Vfs Go.Par Go.Shelf
set_option linter.unusedVariables false

theorem deps11 : (List.range 16).all (fun i => match ops11[i]? with | some o => o.after.toList.all (fun e => !(Region.binds .any e) || decide (e.on < i)) | none => false) = true := by kernel_rfl
theorem all_listed {L : Array Bool} (hs : L.size = 16) (hr : Region.ready .any ops11 L = []) : ∀ m i, i < m → i < 16 → L.getD i false = true
  | 0, i, h, _ => by omega
  | m + 1, i, hm, hi => by
    cases hl : L.getD i false with
    | true => rfl
    | false =>
      exfalso
      have hd := List.all_eq_true.1 deps11 i (List.mem_range.2 hi)
      cases ho : ops11[i]? with
      | none => rw [ho] at hd; cases hd
      | some o =>
        rw [ho] at hd
        have : i ∈ Region.ready .any ops11 L := mem_ready.2 ⟨getD_in (by omega) hl, o, ho, fun e he hb => by
          have h1 := List.all_eq_true.1 hd e (by simpa using he)
          rw [hb] at h1
          have h2 : e.on < i := by simpa using h1
          exact all_listed hs hr m e.on (by omega) (by omega)⟩
        rw [hr] at this
        cases this

section
variable {pL mL q N len c2 b7 : Nat} {A2 : Option Addr} {S : ByteArray} {W : World} {Post : Value → World → Prop} {Fin : World → Prop} {Q : Exit → Act → World → Prop} {l n : Nat}

theorem step11 (hb7 : W.cell? ⟨b7, 0, none⟩ = some (.pointer (some ⟨pL, 0, none⟩))) (hpL : W.cell? ⟨pL, 0, none⟩ = some (.map (some mL))) (hq : W.cell? ⟨q, 0, none⟩ = some (.slice A2 len c2)) (hN : N ≤ c2)
    (hkeep : ∀ u w, Post u w → w.cell? ⟨b7, 0, none⟩ = some (.pointer (some ⟨pL, 0, none⟩)) ∧ w.cell? ⟨pL, 0, none⟩ = some (.map (some mL)) ∧ w.cell? ⟨q, 0, none⟩ = some (.slice A2 len c2) ∧ ∃ A n c, u = .slice A n c)
    (hclone : Calls Try.prog 52 #[.slice A2 N c2] W fun e w' => ∃ u, e = .returned u ∧ Post u w')
    (hupd : ∀ u w2, Post u w2 → ∃ w3, (Instr.mapUpdate 82 (.map (some mL)) (.string S) (.pointer (some ⟨w2.heap.size, 0, none⟩))).run Try.prog (w2.alloc (.cells #[u, .int .i64 N] 89)) = .ok () w3 ∧ Fin w3)
    {L : Array Bool} {a : Act} {w : World} (h : CInv pL mL q N len c2 b7 A2 S W Post Fin L a w) (i : Nat) (hi : i ∈ Region.ready .any ops11 L) :
    wpOpIn (Fence.wide.inRound l) n Try.prog ops11 Q i (fun a' w' => CInv pL mL q N len c2 b7 A2 S W Post Fin (L.setIfInBounds i true) a' w') a w := by
  have hun := (mem_ready.1 hi).1
  have hlt : i < 16 := by
    obtain ⟨_, o, ho, _⟩ := mem_ready.1 hi
    rw [← size11]
    exact (Array.getElem?_eq_some_iff.1 ho).1
  have hunf : L.getD i false = false := getD_both hun
  have hn15 : ¬ (∀ j, j < 16 → L.getD j false = true) := fun hall => by rw [hall i hlt] at hunf; cases hunf
  have hcell : True → w.cell? ⟨b7, 0, none⟩ = some (.pointer (some ⟨pL, 0, none⟩)) ∧ w.cell? ⟨pL, 0, none⟩ = some (.map (some mL)) ∧ w.cell? ⟨q, 0, none⟩ = some (.slice A2 len c2) := fun _ => by
    rcases h.phase with ⟨_, _, _, _, rfl⟩ | ⟨_, _, _, hp, _⟩ | ⟨_, _, _, _, u, w2, hp, rfl, _⟩ | ⟨hall, _⟩
    · exact ⟨hb7, hpL, hq⟩
    · exact ⟨(hkeep _ _ hp).1, (hkeep _ _ hp).2.1, (hkeep _ _ hp).2.2.1⟩
    · exact ⟨box_old (hkeep _ _ hp).1, box_old (hkeep _ _ hp).2.1, box_old (hkeep _ _ hp).2.2.1⟩
    · exact absurd hall hn15
  have hf15 : True := trivial
  have hL : i < L.size := by rw [h.size]; exact hlt
  have f : ∀ j d, j ≠ i → (L.setIfInBounds i true).getD j d = L.getD j d := fun j d hj => by rw [getD_set hL, if_neg (fun e => hj e.symm)]
  have fi : ∀ d, (L.setIfInBounds i true).getD i d = true := fun d => by rw [getD_set hL, if_pos rfl]
  rcases (show i = 0 ∨ i = 1 ∨ i = 2 ∨ i = 3 ∨ i = 4 ∨ i = 5 ∨ i = 6 ∨ i = 7 ∨ i = 8 ∨ i = 9 ∨ i = 10 ∨ i = 11 ∨ i = 12 ∨ i = 13 ∨ i = 14 ∨ i = 15 by omega) with rfl | rfl | rfl | rfl | rfl | rfl | rfl | rfl | rfl | rfl | rfl | rfl | rfl | rfl | rfl | rfl
  · obtain ⟨o, ho, hd, hop, hg, hdep⟩ := at11 o11_0
    have hnd : ∀ c, o.op ≠ .defer c := fun c e => by rw [hop] at e; cases e
    refine wpOpIn_value ho hg hnd (run_loadPFS hop h.f7 (hcell hf15).1) ?_
    rw [hd]
    exact h.steady (i := 0) rfl (by omega) (by omega)
  · obtain ⟨o, ho, hd, hop, hg, hdep⟩ := at11 o11_1
    have hnd : ∀ c, o.op ≠ .defer c := fun c e => by rw [hop] at e; cases e
    refine wpOpIn_value ho hg hnd (run_nilCheck hop (h.vals 0 _ rfl (hdep L hi 0 (by simp)))) ?_
    rw [hd]
    exact h.steady (i := 1) rfl (by omega) (by omega)
  · obtain ⟨o, ho, hd, hop, hg, hdep⟩ := at11 o11_2
    have hnd : ∀ c, o.op ≠ .defer c := fun c e => by rw [hop] at e; cases e
    refine wpOpIn_value ho hg hnd (run_fieldFS hop (h.vals 1 _ rfl (hdep L hi 1 (by simp)))) ?_
    rw [hd]
    exact h.steady (i := 2) rfl (by omega) (by omega)
  · obtain ⟨o, ho, hd, hop, hg, hdep⟩ := at11 o11_3
    have hnd : ∀ c, o.op ≠ .defer c := fun c e => by rw [hop] at e; cases e
    refine wpOpIn_value ho hg hnd (run_loadMap hop (h.vals 2 _ rfl (hdep L hi 2 (by simp))) (hcell hf15).2.1) ?_
    rw [hd]
    exact h.steady (i := 3) rfl (by omega) (by omega)
  · obtain ⟨o, ho, hd, hop, hg, hdep⟩ := at11 o11_4
    have hnd : ∀ c, o.op ≠ .defer c := fun c e => by rw [hop] at e; cases e
    refine wpOpIn_value ho hg hnd ((run_move hop).trans (by rw [show a.eval (.tmp 9) = .string S from h.f9])) ?_
    rw [hd]
    exact h.steady (i := 4) rfl (by omega) (by omega)
  · obtain ⟨o, ho, hd, hop, hg, hdep⟩ := at11 o11_5
    have hnd : ∀ c, o.op ≠ .defer c := fun c e => by rw [hop] at e; cases e
    refine wpOpIn_value ho hg hnd ((run_move hop).trans (by rw [show a.eval (.tmp 10) = .pointer (some ⟨q, 0, none⟩) from h.f10])) ?_
    rw [hd]
    exact h.steady (i := 5) rfl (by omega) (by omega)
  · obtain ⟨o, ho, hd, hop, hg, hdep⟩ := at11 o11_6
    have hnd : ∀ c, o.op ≠ .defer c := fun c e => by rw [hop] at e; cases e
    refine wpOpIn_value ho hg hnd (run_nilCheck hop (h.vals 5 _ rfl (hdep L hi 5 (by simp)))) ?_
    rw [hd]
    exact h.steady (i := 6) rfl (by omega) (by omega)
  · obtain ⟨o, ho, hd, hop, hg, hdep⟩ := at11 o11_7
    have hnd : ∀ c, o.op ≠ .defer c := fun c e => by rw [hop] at e; cases e
    refine wpOpIn_value ho hg hnd (run_fieldFile hop (h.vals 6 _ rfl (hdep L hi 6 (by simp)))) ?_
    rw [hd]
    exact h.steady (i := 7) rfl (by omega) (by omega)
  · obtain ⟨o, ho, hd, hop, hg, hdep⟩ := at11 o11_8
    have hnd : ∀ c, o.op ≠ .defer c := fun c e => by rw [hop] at e; cases e
    have hq' : w.cell? ⟨q, 0, none⟩ = some (.slice A2 len c2) := (hcell hf15).2.2
    refine wpOpIn_value ho hg hnd (run_loadBytes hop (h.vals 7 _ rfl (hdep L hi 7 (by simp))) hq') ?_
    rw [hd]
    exact h.steady (i := 8) rfl (by omega) (by omega)
  · obtain ⟨o, ho, hd, hop, hg, hdep⟩ := at11 o11_9
    have hnd : ∀ c, o.op ≠ .defer c := fun c e => by rw [hop] at e; cases e
    refine wpOpIn_value ho hg hnd ((run_move hop).trans (by rw [show a.eval (.tmp 12) = .int .i64 N from h.f12])) ?_
    rw [hd]
    exact h.steady (i := 9) rfl (by omega) (by omega)
  · obtain ⟨o, ho, hd, hop, hg, hdep⟩ := at11 o11_10
    have hnd : ∀ c, o.op ≠ .defer c := fun c e => by rw [hop] at e; cases e
    refine wpOpIn_value ho hg hnd (run_slice11 hop (h.vals 8 _ rfl (hdep L hi 8 (by simp))) (h.vals 9 _ rfl (hdep L hi 9 (by simp))) hN) ?_
    rw [hd]
    exact h.steady (i := 10) rfl (by omega) (by omega)
  · obtain ⟨o, ho, hd, hop, hg, hdep⟩ := at11 o11_11
    have hnd : ∀ c, o.op ≠ .defer c := fun c e => by rw [hop] at e; cases e
    have hk : 60 < a.tmps.size := by rw [h.tsize]; omega
    have g : ∀ (v : Value) j, j ≠ 60 → (a.put (some 60) v).tmps.getD j undef = a.tmps.getD j undef := fun v j hj => by rw [put_get hk, if_neg (fun e => hj e.symm)]
    have gi : ∀ v : Value, (a.put (some 60) v).tmps.getD 60 undef = v := fun v => by rw [put_get hk, if_pos rfl]
    have hph : L.getD 13 false = false ∧ L.getD 14 false = false ∧ L.getD 15 false = false ∧ w = W := by
      rcases h.phase with ⟨_, p1, p2, p3, p4⟩ | ⟨p, _⟩ | ⟨p, _⟩ | ⟨hall, _⟩
      · exact ⟨p1, p2, p3, p4⟩
      · rw [p] at hunf; cases hunf
      · rw [p] at hunf; cases hunf
      · exact absurd hall hn15
    obtain ⟨p13, p14, p15, rfl⟩ := hph
    refine wpOpIn_enter ho hg hnd (run_callClone hop rfl) ?_
    rw [show a.eval (.tmp 59) = .slice A2 N c2 from h.vals 10 _ rfl (hdep L hi 10 (by simp))]
    refine hclone.mono ?_
    rintro e w1 ⟨u, rfl, hp⟩
    refine ⟨u, rfl, ?_⟩
    rw [hd]
    refine ⟨by simp [h.size], by rw [put_size]; exact h.tsize, by rw [g _ 7 (by omega)]; exact h.f7, by rw [g _ 9 (by omega)]; exact h.f9, by rw [g _ 10 (by omega)]; exact h.f10, by rw [g _ 12 (by omega)]; exact h.f12, fun j v hv hl => by
      have hj : j ≠ 11 := fun e => by subst e; cases hv
      have hj2 : j < 13 := by
        rcases Nat.lt_or_ge j 13 with hx | hx
        · exact hx
        · exfalso
          unfold V11 at hv
          split at hv <;> first | omega | cases hv
      rw [f j _ hj] at hl
      rw [g _ _ (by omega)]
      exact h.vals j v hv hl, .inr (.inl ⟨fi _, by rw [f 14 _ (by omega)]; exact p14, by rw [f 15 _ (by omega)]; exact p15, by rw [gi]; exact hp, fun h13 => by rw [f 13 _ (by omega), p13] at h13; cases h13⟩)⟩
  · obtain ⟨o, ho, hd, hop, hg, hdep⟩ := at11 o11_12
    have hnd : ∀ c, o.op ≠ .defer c := fun c e => by rw [hop] at e; cases e
    refine wpOpIn_value ho hg hnd ((run_move hop).trans (by rw [show a.eval (.tmp 12) = .int .i64 N from h.f12])) ?_
    rw [hd]
    exact h.steady (i := 12) rfl (by omega) (by omega)
  · obtain ⟨o, ho, hd, hop, hg, hdep⟩ := at11 o11_13
    have hnd : ∀ c, o.op ≠ .defer c := fun c e => by rw [hop] at e; cases e
    have hk : 62 < a.tmps.size := by rw [h.tsize]; omega
    have g : ∀ (v : Value) j, j ≠ 62 → (a.put (some 62) v).tmps.getD j undef = a.tmps.getD j undef := fun v j hj => by rw [put_get hk, if_neg (fun e => hj e.symm)]
    have gi : ∀ v : Value, (a.put (some 62) v).tmps.getD 62 undef = v := fun v => by rw [put_get hk, if_pos rfl]
    have hph : L.getD 14 false = false ∧ L.getD 15 false = false ∧ Post (a.tmps.getD 60 undef) w := by
      rcases h.phase with ⟨p, _⟩ | ⟨_, p2, p3, p4, _⟩ | ⟨_, p, _⟩ | ⟨hall, _⟩
      · rw [hdep L hi 11 (by simp)] at p; cases p
      · exact ⟨p2, p3, p4⟩
      · rw [p] at hunf; cases hunf
      · exact absurd hall hn15
    obtain ⟨p14, p15, hp⟩ := hph
    refine wpOpIn_value ho hg hnd (run_build hop (u := a.tmps.getD 60 undef) (v := .int .i64 N) rfl (h.vals 12 _ rfl (hdep L hi 12 (by simp))) (hkeep _ _ hp).2.2.2 ⟨_, rfl⟩) ?_
    rw [hd]
    refine ⟨by simp [h.size], by rw [put_size]; exact h.tsize, by rw [g _ 7 (by omega)]; exact h.f7, by rw [g _ 9 (by omega)]; exact h.f9, by rw [g _ 10 (by omega)]; exact h.f10, by rw [g _ 12 (by omega)]; exact h.f12, fun j v hv hl => by
      have hj : j ≠ 13 := fun e => by subst e; cases hv
      have hj2 : j < 13 := by
        rcases Nat.lt_or_ge j 13 with hx | hx
        · exact hx
        · exfalso
          unfold V11 at hv
          split at hv <;> first | omega | cases hv
      rw [f j _ hj] at hl
      rw [g _ _ (by omega)]
      exact h.vals j v hv hl, .inr (.inl ⟨by rw [f 11 _ (by omega)]; exact hdep L hi 11 (by simp), by rw [f 14 _ (by omega)]; exact p14, by rw [f 15 _ (by omega)]; exact p15, by rw [g _ 60 (by omega)]; exact hp, fun _ => by rw [gi, g _ 60 (by omega)]⟩)⟩
  · obtain ⟨o, ho, hd, hop, hg, hdep⟩ := at11 o11_14
    have hnd : ∀ c, o.op ≠ .defer c := fun c e => by rw [hop] at e; cases e
    have hk : 63 < a.tmps.size := by rw [h.tsize]; omega
    have g : ∀ (v : Value) j, j ≠ 63 → (a.put (some 63) v).tmps.getD j undef = a.tmps.getD j undef := fun v j hj => by rw [put_get hk, if_neg (fun e => hj e.symm)]
    have gi : ∀ v : Value, (a.put (some 63) v).tmps.getD 63 undef = v := fun v => by rw [put_get hk, if_pos rfl]
    have h13 := hdep L hi 13 (by simp)
    have hph : L.getD 11 false = true ∧ L.getD 15 false = false ∧ Post (a.tmps.getD 60 undef) w ∧ a.tmps.getD 62 undef = .agg #[a.tmps.getD 60 undef, .int .i64 N] := by
      rcases h.phase with ⟨_, p, _⟩ | ⟨p1, p2, p3, p4, p5⟩ | ⟨_, _, p, _⟩ | ⟨hall, _⟩
      · rw [h13] at p; cases p
      · exact ⟨p1, p3, p4, p5 h13⟩
      · rw [p] at hunf; cases hunf
      · exact absurd hall hn15
    obtain ⟨p11, p15, hp, h62⟩ := hph
    refine wpOpIn_value ho hg hnd (run_boxFile hop h62 (hkeep _ _ hp).2.2.2 ⟨_, rfl⟩) ?_
    rw [hd]
    refine ⟨by simp [h.size], by rw [put_size]; exact h.tsize, by rw [g _ 7 (by omega)]; exact h.f7, by rw [g _ 9 (by omega)]; exact h.f9, by rw [g _ 10 (by omega)]; exact h.f10, by rw [g _ 12 (by omega)]; exact h.f12, fun j v hv hl => by
      have hj : j ≠ 14 := fun e => by subst e; cases hv
      have hj2 : j < 13 := by
        rcases Nat.lt_or_ge j 13 with hx | hx
        · exact hx
        · exfalso
          unfold V11 at hv
          split at hv <;> first | omega | cases hv
      rw [f j _ hj] at hl
      rw [g _ _ (by omega)]
      exact h.vals j v hv hl, .inr (.inr (.inl ⟨by rw [f 11 _ (by omega)]; exact p11, by rw [f 13 _ (by omega)]; exact h13, fi _, by rw [f 15 _ (by omega)]; exact p15, _, w, hp, rfl, gi _⟩))⟩
  · obtain ⟨o, ho, hd, hop, hg, hdep⟩ := at11 o11_15
    have hnd : ∀ c, o.op ≠ .defer c := fun c e => by rw [hop] at e; cases e
    have h14 := hdep L hi 14 (by simp)
    have hph : ∃ u w2, Post u w2 ∧ w = w2.alloc (.cells #[u, .int .i64 N] 89) ∧ a.tmps.getD 63 undef = .pointer (some ⟨w2.heap.size, 0, none⟩) := by
      rcases h.phase with ⟨_, _, p, _⟩ | ⟨_, p, _⟩ | ⟨_, _, _, _, p⟩ | ⟨hall, _⟩
      · rw [h14] at p; cases p
      · rw [h14] at p; cases p
      · exact p
      · exact absurd hall hn15
    obtain ⟨u, w2, hp, rfl, h63⟩ := hph
    obtain ⟨w3, hrun, hfin⟩ := hupd u w2 hp
    refine wpOpIn_skip ho hg hnd (run_update hop (h.vals 3 _ rfl (hdep L hi 3 (by simp))) (h.vals 4 _ rfl (hdep L hi 4 (by simp))) h63 hrun) ?_
    rw [hd]
    refine ⟨by simp [h.size], h.tsize, h.f7, h.f9, h.f10, h.f12, fun j v hv hl => ?_, .inr (.inr (.inr ⟨fun j hj => ?_, hfin⟩))⟩
    · have hj : j ≠ 15 := fun e => by subst e; cases hv
      rw [f j _ hj] at hl
      exact h.vals j v hv hl
    · by_cases e : j = 15
      · subst e; exact fi _
      · rw [f j _ e]
        refine hdep L hi j ?_
        have : j = 0 ∨ j = 1 ∨ j = 2 ∨ j = 3 ∨ j = 4 ∨ j = 5 ∨ j = 6 ∨ j = 7 ∨ j = 8 ∨ j = 9 ∨ j = 10 ∨ j = 11 ∨ j = 12 ∨ j = 13 ∨ j = 14 := by omega
        simp
        omega
end
end Go.Proofs.Ytpdelgjfamelfaa
