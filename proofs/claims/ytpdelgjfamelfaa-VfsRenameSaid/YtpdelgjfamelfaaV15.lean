import Derived.Test.YtpdelgjfamelfaaVX
import Derived.RangeFuncWrites
import Derived.Maps.OwnIn
namespace Go.Proofs.Ytpdelgjfamelfaa
open Go.RowKit Go.Lib Go.Vfs Go.Par Go.Shelf
set_option linter.unusedVariables false
attribute [local go_sem] Oper.semAt_some

theorem CrashI.kept {w X Y : World} {power : Int} {keeps : List Int} {kv : Value} {cnt : Nat} {fs : List File} {row : Option Nat} (h : CrashI w power keeps kv cnt fs X) (hg : X.grownBy Y row) (hr : ∀ r, row = some r → w.heap.size + 6 ≤ r ∧ ∃ o : Obj, X.heap[r]? = some o ∧ o.isCells = false) : CrashI w power keeps kv cnt fs Y := by
  have hz := h.size
  have same : ∀ k, k < w.heap.size + 6 → Y.heap[k]? = X.heap[k]? := fun k hk => hg.block k (by omega) (fun e => by have := (hr k e.symm).1; omega)
  have cells : ∀ (k : Nat) (o : Obj), X.heap[k]? = some o → o.isCells = true → Y.heap[k]? = X.heap[k]? := fun k o hk hc => hg.block k (lt_of_block hk) (fun e => by
    obtain ⟨_, o', ho', hc'⟩ := hr k e.symm
    rw [hk] at ho'
    cases ho'
    rw [hc] at hc'
    cases hc')
  obtain ⟨ys, h1, h2, h3⟩ := h.fs
  refine ⟨(same _ (by omega)).trans h.b4, (same _ (by omega)).trans h.b7, (same _ (by omega)).trans h.b8, ⟨ys, h1, h2.block (fun k hk => ?_), h3⟩, h.below.grown hg h.below.size (fun k e => by have := (hr k e).1; omega), by have := hg.size; omega⟩
  rcases hk with rfl | rfl | ⟨y, hy, hk⟩
  · exact same _ (by omega)
  · exact same _ (by omega)
  · have hf := h2.files y hy
    unfold blocksR at hk
    rcases List.mem_cons.1 hk with rfl | hk
    · exact cells _ _ hf.head rfl
    · have hk' : y.v.ownBlock = some k := by simpa using hk
      rcases hf.row.2 with ⟨e, _⟩ | ⟨g, cap, cur, e, _, hb, _⟩
      · rw [e] at hk'; cases hk'
      · rw [e] at hk'
        cases hk'
        exact cells _ _ hb rfl

set_option maxRecDepth 100000 in
set_option maxHeartbeats 2000000 in
theorem crash_any (w : World) (p : Nat) (st : St) (F : Nat → Prop) (h : Fsy w p st F) (hfl : st.files.length ≤ 100000) (hnl : ∀ f ∈ st.files, f.name.length ≤ 100000) (hdl : ∀ f ∈ st.files, f.data.length ≤ 2147483648)
    (kv : Value) (keeps : List Int) (hk : Seg w w.heap.size kv (ints keeps)) (power : Int) :
    Calls Try.prog 18 #[.pointer (some ⟨p, 0, none⟩), kv, .int .i64 power] w fun e w' => ∃ p' F', e = .returned (.pointer (some ⟨p', 0, none⟩)) ∧ Fsy w' p' (stCrash st keeps power) F' ∧ (∀ k, F' k → w.heap.size ≤ k ∧ k < w'.heap.size) ∧ Below w.heap.size w w' := by
  obtain ⟨xs, mb, hfs, hat, rfl⟩ := h
  have hxl : xs.length ≤ 100000 := by rw [hfs] at hfl; simpa using hfl
  have hxn : ∀ x ∈ xs, x.f.name.length ≤ 100000 := fun x hx => hnl x.f (by rw [hfs]; exact List.mem_map_of_mem hx)
  have hlt := hat.lt
  obtain ⟨A, c, rfl, hcc, hcm, hkat⟩ := hk.open_ints
  obtain ⟨W0, hW0⟩ : ∃ W0, W0 = (((((w.alloc (.cells #[.slice A keeps.length c] 30)).alloc (.map #[] 0)).alloc (.cells #[.map (some (w.heap.size + 1)), .int .i64 power] 84)).alloc (.cells #[.pointer (some ⟨w.heap.size + 1 + 1, 0, none⟩)] 24)).alloc (.cells #[.int .i64 0] 3)).alloc (.cells #[.pointer (some ⟨p, 0, none⟩)] 24) := ⟨_, rfl⟩
  have hs0 : W0.heap.size = w.heap.size + 6 := by rw [hW0]; simp
  have hb0 : Below w.heap.size w W0 := by
    rw [hW0]
    exact ((((((Below.refl _ w).alloc (Nat.le_refl _) _).alloc (by simp) _).alloc (by simp; omega) _).alloc (by simp; omega) _).alloc (by simp; omega) _).alloc (by simp; omega) _
  have HSEQ : Hid (SeqStopsK Fence.wide 6 Try.prog 73 #[.pointer (some ⟨w.heap.size + 1 + 1 + 1 + 1 + 1, 0, none⟩)] (encF (xs := xs)) (KpE (w.heap.size + 6) (ExC (w.heap.size + 1 + 1 + 1 + 1) (w.heap.size + 1))) (fun ys => ys = xs.attach) (fun pre => pre <+: xs.attach) xs.length W0) := Lib.hid (each_stops W0 p st.power xs mb (hat.below hb0) hxl hxn _ (w.heap.size + 6) (by omega) (by omega) (by rw [hW0]; have := heap_alloc_new (((((w.alloc (.cells #[.slice A keeps.length c] 30)).alloc (.map #[] 0)).alloc (.cells #[.map (some (w.heap.size + 1)), .int .i64 power] 84)).alloc (.cells #[.pointer (some ⟨w.heap.size + 1 + 1, 0, none⟩)] 24)).alloc (.cells #[.int .i64 0] 3)) (.cells #[.pointer (some ⟨p, 0, none⟩)] 24); simpa only [World.size_alloc] using this) (fun k hk => by have := hlt k hk; omega) _ (fun W hW k hk => by
    rcases hk with rfl | rfl
    · exact ⟨by omega, by omega, fun ho => by have := hlt _ ho; omega⟩
    · exact ⟨by omega, by omega, fun ho => by have := hlt _ ho; omega⟩))
  refine (callsIn_wide (n := 7)).1 ?_
  refine callsIn_of_wp_marks Try.func18 rfl trivial ?_ rfl
  simp only [Try.ntmps18, List.size_toArray, List.length_cons, List.length_nil, Nat.reduceAdd, Nat.reduceSub, Array.replicate_succ, Array.replicate_zero, List.push_toArray, List.append_toArray, List.nil_append, List.cons_append]
  gi_wp2_with (first
    | (refine ⟨trivial, ?_⟩; gi_at_call 15; refine (callsIn_wide.2 (new_any power _)).mono ?_; rintro e w1 ⟨rfl, rfl⟩)
    | (refine ⟨trivial, ?_⟩; gi_at_call 51; refine (callsIn_wide.2 (each_any p _)).mono ?_; rintro e w1 ⟨rfl, rfl⟩))
  rw [← hW0]
  have hgx := hb0.size
  have HFS := Lib.hid hfs
  refine wpIn_rangeFunc_ownG (F := Fence.wide) rfl (by omega) (gf := 73) (lb := #[.pointer (some ⟨w.heap.size + 1 + 1 + 1 + 1 + 1, 0, none⟩)]) rfl trivial (enters_of Try.func73 (by kernel_rfl) rfl)
    HSEQ.out kpE_t ?hKb (Below.refl _ _) (fun _ => rfl)
    (fun pre W => CrashI w power keeps (.slice A keeps.length c) (if keeps.length = 0 then 0 else pre.length) (pre.map fun x => x.1.f) W)
    (fun _ _ _ => False) ?hI (fun _ _ _ _ _ hs _ _ => hs) ?h0
    (fun x => { tmps := #[.pointer (some ⟨p, 0, none⟩), .slice A keeps.length c, .int .i64 power, undef, .pointer (some ⟨w.heap.size, 0, none⟩), undef, .pointer none, .pointer (some ⟨w.heap.size + 1 + 1 + 1, 0, none⟩), .pointer (some ⟨w.heap.size + 1 + 1 + 1 + 1, 0, none⟩), .string ⟨x.1.f.name.toArray⟩, .pointer (some ⟨x.1.q, 0, none⟩), undef, undef, .int .i64 power, .pointer (some ⟨w.heap.size + 1 + 1, 0, none⟩), .pointer (some ⟨p, 0, none⟩), .func (.func 73) #[] #[.pointer (some ⟨w.heap.size + 1 + 1 + 1 + 1 + 1, 0, none⟩)], .string ⟨x.1.f.name.toArray⟩, .pointer (some ⟨x.1.q, 0, none⟩), undef, undef, undef, undef, undef, undef, undef, undef, undef, undef, undef, undef, undef, undef, undef, undef, undef, undef, undef, undef, undef, undef, undef, undef, undef, undef, undef, undef, undef, undef, undef, undef, undef, undef, undef, undef, undef, undef, undef, undef, undef, undef, undef, undef, undef, undef], defers := [] }) ?assign ?body ?done ?stop
  case hKb =>
    intro W l o o' hl hget hcl hwl
    exact kpE_putObj (by omega) hget hcl (fun k hk => hk)
  case hI =>
    intro pre X Y row hs hg hr
    exact hs.kept hg (fun r e => ⟨by have := (hr r e).1; omega, (hr r e).2⟩)
  case h0 =>
    have e0 : (if keeps.length = 0 then 0 else ([] : List (FileOf xs)).length) = 0 := by split <;> rfl
    rw [e0, hW0]
    have k7 := ((Boxed.new (((w.alloc (.cells #[.slice A keeps.length c] 30)).alloc (.map #[] 0)).alloc (.cells #[.map (some (w.heap.size + 1)), .int .i64 power] 84)) 24 (.pointer (some ⟨w.heap.size + 1 + 1, 0, none⟩))).alloc (.cells #[.int .i64 0] 3)).alloc (.cells #[.pointer (some ⟨p, 0, none⟩)] 24)
    have k8 := (Boxed.new ((((w.alloc (.cells #[.slice A keeps.length c] 30)).alloc (.map #[] 0)).alloc (.cells #[.map (some (w.heap.size + 1)), .int .i64 power] 84)).alloc (.cells #[.pointer (some ⟨w.heap.size + 1 + 1, 0, none⟩)] 24)) 3 (.int .i64 0)).alloc (.cells #[.pointer (some ⟨p, 0, none⟩)] 24)
    have kh := (heap_alloc_new ((w.alloc (.cells #[.slice A keeps.length c] 30)).alloc (.map #[] 0)) (.cells #[.map (some (w.heap.size + 1)), .int .i64 power] 84))
    have km := World.ownsMap_made (w.alloc (.cells #[.slice A keeps.length c] 30)) Try.prog 9 ptrElem
    simp only [World.size_alloc] at k7 k8 kh km
    refine ⟨((((((Boxed.new w 30 (.slice A keeps.length c)).alloc _).alloc _).alloc _).alloc _).alloc _), k7, k8, ⟨[], rfl, ⟨?_, (((km.alloc _).alloc _).alloc _).alloc _, by simp, List.Pairwise.nil, by omega, by simp, by simp⟩, by simp⟩, by rw [← hW0]; exact hb0, by rw [← hW0]; omega⟩
    rw [Below.heap_alloc _ _ _ (by first | omega | (simp; done) | (simp; omega)), Below.heap_alloc _ _ _ (by first | omega | (simp; done) | (simp; omega)), Below.heap_alloc _ _ _ (by first | omega | (simp; done) | (simp; omega))]
    exact kh
  case assign =>
    intro l x W K hK
    dsimp only [encF]
    gi_wp2
    exact hK
  case body =>
    intro l pre x W hIW hlen
    have hxq : x.1.q < w.heap.size := lt_of_block (hat.files x.1 x.2).head
    have hFx := (hat.files x.1 x.2).block (w' := W) (fun k hk => hIW.below.block k ((hat.files x.1 x.2).lt k hk))
    obtain ⟨A2, c2, hv2⟩ := hFx.form
    have hh2 := hFx.head
    rw [hv2] at hh2
    have hrow2 := hFx.row
    rw [hv2] at hrow2
    have hcap2 := row_cap hrow2
    have hsafe := hFx.safe
    have g0 : W.cell? ⟨x.1.q, 0, none⟩ = some (.slice A2 x.1.f.data.length c2) := by simp [World.cell?, hh2]
    have g1 : W.cell? ⟨x.1.q, 1, none⟩ = some (.int .i64 x.1.f.safe) := by simp [World.cell?, hh2]
    have hdx : x.1.f.data.length ≤ 2147483648 := hdl x.1.f (by rw [HFS.out]; exact List.mem_map_of_mem x.2)
    have hnx := hxn x.1 x.2
    have HFX := Lib.hid hFx
    clear hv2 hh2 hFx hrow2
    by_cases hk0 : keeps.length = 0
    · rw [if_pos hk0] at hIW
      have c4 := hIW.b4.cell
      have c7 := hIW.b7.cell
      have c8 := hIW.b8.cell
      have HI := Lib.hid hIW; clear hIW
      have hd0 : decide (0 < keeps.length) = false := by rw [hk0]; rfl
      have q1 : IntKind.i64.wrap ((x.1.f.data.length : Int) - x.1.f.safe) = ((x.1.f.data.length - x.1.f.safe : Nat) : Int) := by rw [IntWalk.i64_in _ (by omega)]; omega
      gi_wp2
      refine wpIn_round_quiet (by kernel_rfl) (by kernel_rfl) (by kernel_rfl) ?_
      repeat (any_goals (first | go_big_quiet_step (fail) | quiet_step (fail)))
      all_goals (refine wpQuiet_nil ?_; intro _ hw'; obtain ⟨nq, hw''⟩ := hw'; subst hw'')
      clear q1
      gi_wp2
      have hNe : (x.1.f.safe : Int) + min 0 ((x.1.f.data.length - x.1.f.safe : Nat) : Int) = ((cutN (cutK keeps (pre.map fun x => x.1.f).length) x.1.f : Nat) : Int) := by unfold cutN cutK; rw [if_pos hk0]; simp; omega
      rw [hNe]
      refine crash_last (HI.out.drewN nq) x.1 (HFX.out.block (fun _ _ => rfl)) hdx hnx (by simp; omega) rfl (fun a w3 h1 h2 h3 => ?_) _ rfl rfl rfl rfl rfl
      refine ⟨⟨h2.size, fun k o hB => h2.same k o (by omega)⟩, h3, ?_⟩
      show CrashI w power keeps (.slice A keeps.length c) (if keeps.length = 0 then 0 else (pre ++ [x]).length) ((pre ++ [x]).map fun x => x.1.f) w3
      rw [if_pos hk0, List.map_append]
      exact h1
    · rw [if_neg hk0] at hIW
      have hkp : 0 < keeps.length := by omega
      have c4 := hIW.b4.cell
      have c7 := hIW.b7.cell
      have c8 := hIW.b8.cell
      have f8 := hIW.b8.frozen
      obtain ⟨j, hj⟩ : ∃ j, j = pre.length % keeps.length := ⟨_, rfl⟩
      have hjl : j < keeps.length := by rw [hj]; exact Nat.mod_lt _ hkp
      obtain ⟨bk, ok, xk, rfl, hbk, hck, Hxk⟩ := hkat.int hjl
      have hckW : W.cell? ⟨bk, ok + j, none⟩ = some (.int .i64 xk) := (hIW.below.cell (p := ⟨bk, ok + j, none⟩) hbk).trans hck
      have q0 : ((pre.length : Int)).tmod (keeps.length : Int) = (j : Int) := by rw [hj]; rfl
      have HJ := Lib.hid hj; clear hj hck
      have hne8 : w.heap.size + 1 + 1 + 1 + 1 ≠ x.1.q := by omega
      have HI := Lib.hid hIW; clear hIW
      have hd0 : decide (0 < keeps.length) = true := by simpa using hkp
      gi_wp2
      refine wpIn_round_quiet (by kernel_rfl) (by kernel_rfl) (by kernel_rfl) ?_
      repeat (any_goals (first | go_big_quiet_step (fail) | quiet_step (fail)))
      all_goals (refine wpQuiet_nil ?_; intro _ hw'; obtain ⟨nq, hw''⟩ := hw'; subst hw'')
      clear q0
      gi_wp2
      have q2 : (pre.length : Int) + 1 = ((pre.length + 1 : Nat) : Int) := by omega
      rw [q2]
      obtain ⟨V, hV⟩ : ∃ V, V = (W.drewN nq).setCell ⟨w.heap.size + 1 + 1 + 1 + 1, 0, none⟩ (.int .i64 ((pre.length + 1 : Nat) : Int)) := ⟨_, rfl⟩
      rw [← hV]
      obtain ⟨hI2, hK2, hP2⟩ := (HI.out.drewN nq).count (pre.length + 1)
      have hFV : FileAt V x.1 := HFX.out.block (fun k hk => by
        rw [hV, Below.heap_setCell _ _ _ _ (fun e => by have := (hat.files x.1 x.2).lt k hk; have h2 : k = w.heap.size + 1 + 1 + 1 + 1 := e; omega)]
        rfl)
      have g0V : V.cell? ⟨x.1.q, 0, none⟩ = some (.slice A2 x.1.f.data.length c2) := by rw [hV, World.cell?_setCell_other _ _ _ _ (fun e => hne8 (by injection e))]; exact g0
      have g1V : V.cell? ⟨x.1.q, 1, none⟩ = some (.int .i64 x.1.f.safe) := by rw [hV, World.cell?_setCell_other _ _ _ _ (fun e => hne8 (by injection e))]; exact g1
      rw [← hV] at hI2 hK2 hP2
      have HV := Lib.hid hV; clear hV q2 hckW c4 c7 c8 f8 g0 g1
      have HI2 := Lib.hid hI2; clear hI2
      have HK2 := Lib.hid hK2; clear hK2
      have HP2 := Lib.hid hP2; clear hP2
      have HFV := Lib.hid hFV; clear hFV
      have q1 : IntKind.i64.wrap ((x.1.f.data.length : Int) - x.1.f.safe) = ((x.1.f.data.length - x.1.f.safe : Nat) : Int) := by rw [IntWalk.i64_in _ (by omega)]; omega
      refine wpIn_round_quiet (by kernel_rfl) (by kernel_rfl) (by kernel_rfl) ?_
      repeat (any_goals (first | go_big_quiet_step (fail) | quiet_step (fail)))
      all_goals (refine wpQuiet_nil ?_; intro _ hw'; obtain ⟨nq2, hw''⟩ := hw'; subst hw'')
      clear q1
      gi_wp2
      have hNe : (x.1.f.safe : Int) + min (max xk 0) ((x.1.f.data.length - x.1.f.safe : Nat) : Int) = ((cutN (cutK keeps (pre.map fun x => x.1.f).length) x.1.f : Nat) : Int) := by
        unfold cutN cutK
        rw [if_neg hk0, List.length_map, ← HJ.out, Hxk.out]
        omega
      rw [hNe]
      refine crash_last (HI2.out.drewN nq2) x.1 (HFV.out.block (fun _ _ => rfl)) hdx hnx (by simp; omega) rfl (fun a w3 h1 h2 h3 => ?_) _ rfl rfl rfl rfl rfl
      refine ⟨⟨Nat.le_trans HK2.out.size h2.size, fun k o hB hk hc => h2.same k o (by omega) (HK2.out.same k o (by omega) hk hc) hc⟩, kpE_t HP2.out h3, ?_⟩
      show CrashI w power keeps (.slice (some ⟨bk, ok, none⟩) keeps.length c) (if keeps.length = 0 then 0 else (pre ++ [x]).length) ((pre ++ [x]).map fun x => x.1.f) w3
      rw [if_neg hk0, List.map_append, List.length_append]
      exact h1
  case done =>
    rintro D ys W hD rfl hIW hK
    have c7 := hIW.b7.cell
    have HI := Lib.hid hIW; clear hIW
    gi_wp2
    refine ⟨by simp, .inl ⟨_, _, rfl, run_takeDeferred hK, ?_⟩⟩
    have hY := HI.out.kept (grownBy_putObj' W D (.deferred none)) (fun r e => by cases e; exact ⟨by omega, _, hK, rfl⟩)
    obtain ⟨zs, hz1, hz2, hz3⟩ := hY.fs
    refine ⟨_, results_tmp rfl _ _ _, w.heap.size + 1 + 1, OwnF (w.heap.size + 1 + 1) (w.heap.size + 1) zs, rfl, ⟨zs, w.heap.size + 1, ?_, hz2, rfl⟩, fun k hk => ⟨?_, hz2.lt k hk⟩, hY.below⟩
    · rw [hz1]
      have he : (xs.attach.map fun x => x.1.f) = st.files := by rw [HFS.out]; simp
      rw [he, crashW_rising keeps (by rw [HFS.out]; exact List.pairwise_map.2 hat.rising)]
      rfl
    · rcases hk with rfl | rfl | ⟨y, hy, hk⟩
      · omega
      · omega
      · have := hz3 y hy k hk; omega
  case stop =>
    rintro D c pre W _ _ h _
    exact h.elim
end Go.Proofs.Ytpdelgjfamelfaa
