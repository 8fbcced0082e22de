import Derived.Test.YtpdelgjfamelfaaV13
namespace Go.Proofs.Ytpdelgjfamelfaa
open Go.RowKit Go.Lib Go.Vfs Go.Par Go.Shelf
set_option linter.unusedVariables false
attribute [local go_sem] Oper.semAt_some

theorem wpListIn_app {F : Fence} {n : Nat} {P : Program} (w : World) {ops : Array Oper} {rest : List Oper} {o : Oper} {a : Act} {Q : Exit → Act → World → Prop} (hgd : o.guard = none) (s x : Operand) (t : TypeId)
    (ho : o.op = .call { callee := .builtin .append, args := #[s, x], argTypes := #[t, t] })
    (base : Nat) (e : TypeId) (z : Value) (E : Elem P t e z) (v : Value) (xs : List Value) (hs : a.eval s = v) (hown : Par.Own w base e v xs)
    (B : Nat) (u : Value) (news : List Value) (hx : a.eval x = u) (hsg : Seg w B u news) (h1 : ∀ x ∈ news, x.oneCell' = true)
    (hbd : xs.length + news.length ≤ 2147483648) (hbase : base ≤ w.heap.size)
    (h : ∀ v' w', Par.Own w' base e v' (xs ++ news) → w.grownBy w' v.ownBlock → (v'.ownBlock = v.ownBlock ∨ v'.ownBlock = some w.heap.size) → wpListIn F n P ops Q rest (a.put o.dst v') w') : wpListIn F n P ops Q (o :: rest) a w := by
  refine wpListIn_plain hgd fun K hK' => ?_
  obtain ⟨v', w', hrun, r1, r2, r3⟩ := run_app (P := P) w base t o.type e z E v xs hown B u news hsg h1 hbd hbase
  unfold Oper.wpIn
  refine ⟨?_, ?_⟩
  · simp [Oper.about, ho, resolve, Target.leads, Sem.run_pure]
  · rw [Oper.semAt_plain F _ _ (by rw [ho]; intro c hc'; cases hc')]
    simp [execOp, ho, resolve, invoke, builtin, hs, hx, hrun, Result.andThen]
    exact hK' _ _ (h v' w' r1 r2 r3)

def strs (ls : List (List UInt8)) : List Value := ls.map fun l => .string ⟨l.toArray⟩
theorem strs_length (ls : List (List UInt8)) : (strs ls).length = ls.length := by simp [strs]
theorem strs_append (a b : List (List UInt8)) : strs (a ++ b) = strs a ++ strs b := by simp [strs]
theorem one_strs (ls : List (List UInt8)) : ∀ x ∈ strs ls, x.oneCell' = true := by
  intro x hx
  obtain ⟨z, _, rfl⟩ := List.mem_map.1 hx
  rfl
theorem strE : Elem Try.prog 56 9 (.string ⟨#[]⟩) := elem_of (b := 16) Try.underlying56 (by kernel_rfl) (by decide) rfl

theorem each_any (p : Nat) (w : World) : Calls Try.prog 51 #[.pointer (some ⟨p, 0, none⟩)] w fun e w' =>
    e = .returned (.func (.func 73) #[] #[.pointer (some ⟨w.heap.size, 0, none⟩)]) ∧ w.alloc (.cells #[.pointer (some ⟨p, 0, none⟩)] 24) = w' := by
  go_enter Try.func51, Try.ntmps51
  go_wp2
  go_ret
  exact ⟨rfl, rfl⟩

def namesOf {xs : List FileR} (pre : List (FileOf xs)) : List (List UInt8) := pre.map fun x => x.1.f.name
theorem namesOf_snoc {xs : List FileR} (pre : List (FileOf xs)) (x : FileOf xs) : namesOf (pre ++ [x]) = namesOf pre ++ [x.1.f.name] := by simp [namesOf]
theorem namesOf_length {xs : List FileR} (pre : List (FileOf xs)) : (namesOf pre).length = pre.length := by simp [namesOf]
theorem namesOf_all (xs : List FileR) : namesOf xs.attach = (xs.map (·.f)).map File.name := by simp [namesOf]
/-- what the loop of Names owns: the box of its variable, and the row in it. -/
def ExN (b : Nat) (W : World) (k : Nat) : Prop := k = b ∨ ∃ v, W.cell? ⟨b, 0, none⟩ = some v ∧ v.ownBlock = some k

theorem putObj_heap (W : World) (l : Nat) (o' : Obj) {k : Nat} (h : k ≠ l) : (W.putObj l o').heap[k]? = W.heap[k]? := by
  rcases Nat.lt_or_ge k W.heap.size with hk | hk
  · exact (grownBy_putObj' W l o').block k hk (fun e => h (by cases e; rfl))
  · have h1 : (W.putObj l o').heap.size = W.heap.size := by simp [World.putObj]
    rw [Array.getElem?_eq_none (by omega), Array.getElem?_eq_none (by omega)]
theorem kpE_putObj {n₀ : Nat} {Ex : World → Nat → Prop} {W : World} {l : Nat} {o o' : Obj} (hl : n₀ ≤ l) (h : W.heap[l]? = some o) (hc : o.isCells = false) (hE : ∀ k, Ex (W.putObj l o') k → Ex W k) : KpE n₀ Ex W (W.putObj l o') := by
  refine ⟨by simp [World.putObj], fun k ob hk hor hn => ?_, fun k hk => .inl (hE k hk)⟩
  have hne : k ≠ l := fun e => by
    subst e
    rw [h] at hk; cases hk
    rcases hor with h1 | h1
    · omega
    · rw [hc] at h1; cases h1
  rw [putObj_heap W l o' hne]; exact hk

set_option maxRecDepth 100000 in
set_option maxHeartbeats 2000000 in
theorem names_any (w : World) (p : Nat) (st : St) (F : Nat → Prop) (h : Fsy w p st F) (hfl : st.files.length ≤ 100000) (hnl : ∀ f ∈ st.files, f.name.length ≤ 100000) :
    Calls Try.prog 33 #[.pointer (some ⟨p, 0, none⟩)] w fun e w' => ∃ v, e = .returned v ∧ Par.Own w' w.heap.size 9 v (strs (st.files.map File.name)) ∧ Below w.heap.size w w' := by
  obtain ⟨xs, mb, hfs, hat, rfl⟩ := h
  have hxl : xs.length ≤ 100000 := by rw [hfs] at hfl; simpa using hfl
  have hxn : ∀ x ∈ xs, x.f.name.length ≤ 100000 := fun x hx => hnl x.f (by rw [hfs]; exact List.mem_map_of_mem hx)
  have hlt := hat.lt
  have hb0 : Below w.heap.size w ((w.alloc (.cells #[.slice none 0 0] 56)).alloc (.cells #[.pointer (some ⟨p, 0, none⟩)] 24)) := ((Below.refl _ w).alloc (Nat.le_refl _) _).alloc (by simp) _
  have hat2 := hat.below hb0
  have bO := Boxed.new w 56 (.slice none 0 0)
  have bN := Boxed.new (w.alloc (.cells #[.slice none 0 0] 56)) 24 (.pointer (some ⟨p, 0, none⟩))
  rw [World.size_alloc] at bN
  have bO2 := bO.alloc (.cells #[.pointer (some ⟨p, 0, none⟩)] 24)
  have hseq := each_stops _ p st.power xs mb hat2 hxl hxn (w.heap.size + 1) (w.heap.size + 2) (by omega) (by simp) bN (fun k hk => by have := hlt k hk; omega) (ExN w.heap.size) (fun W hW k hk => by
    rcases hk with rfl | ⟨v, hv, hk⟩
    · exact ⟨by simp; omega, by omega, fun ho => by have := hlt _ ho; omega⟩
    · rw [hW.cell (p := ⟨w.heap.size, 0, none⟩) (by simp; omega), bO2.cell] at hv
      cases hv
      simp [Value.ownBlock] at hk)
  have HFS := Lib.hid hfs; clear hfs hfl hnl
  have HAT := Lib.hid hat; clear hat hat2
  have HSEQ := Lib.hid hseq; clear hseq
  have HB0 := Lib.hid hb0; clear hb0
  have HLT := Lib.hid hlt; clear hlt
  clear hxn
  refine (callsIn_wide (n := 7)).1 ?_
  refine callsIn_of_wp_marks Try.func33 rfl trivial ?_ rfl
  simp only [Try.ntmps33, List.size_toArray, List.length_cons, List.length_nil, Nat.reduceAdd, Nat.reduceSub, Array.replicate_succ, Array.replicate_zero, List.push_toArray, List.append_toArray, List.nil_append, List.cons_append]
  gi_wp2_with (refine ⟨trivial, ?_⟩; gi_at_call 51; refine (callsIn_wide.2 (each_any p _)).mono ?_; rintro e w1 ⟨rfl, rfl⟩)
  refine wpIn_rangeFunc_ownF (F := Fence.wide) rfl (by omega) (gf := 73) (lb := #[.pointer (some ⟨w.heap.size + 1, 0, none⟩)]) rfl trivial (enters_of Try.func73 (by kernel_rfl) rfl)
    HSEQ.out kpE_t ?hKb (Below.refl _ _) (fun _ => rfl)
    (fun pre W => (∃ v, Boxed W w.heap.size 56 v ∧ W.ownsRow w.heap.size 9 1 v (strs (namesOf pre)).length (strs (namesOf pre)) ∧ True) ∧ Below w.heap.size w W)
    (fun _ _ _ => False)
    (OwnFrom.and (Go.Own.from (holdsRow_own w.heap.size w.heap.size 56 9 1 (fun pre : List (FileOf xs) => (strs (namesOf pre)).length) (fun pre => strs (namesOf pre)) (fun _ _ => True)) _) (ownFrom_below (Nat.le_refl _) (by simp; omega)))
    (fun _ _ _ _ _ hs _ _ => hs)
    ⟨⟨_, bO2, World.ownsRow_nil _ _ _ _, trivial⟩, HB0.out⟩
    (fun x => { tmps := #[.pointer (some ⟨p, 0, none⟩), undef, .slice none 0 0, .pointer (some ⟨w.heap.size, 0, none⟩), .string ⟨x.1.f.name.toArray⟩, .pointer (some ⟨p, 0, none⟩), .func (.func 73) #[] #[.pointer (some ⟨w.heap.size + 1, 0, none⟩)], .string ⟨x.1.f.name.toArray⟩, .pointer (some ⟨x.1.q, 0, none⟩), undef, undef, undef, undef, undef], defers := [] }) ?assign ?body ?done ?stop
  case hKb =>
    intro W l o o' hl hget hcl hwl
    simp only [World.size_alloc] at hl
    refine kpE_putObj (by omega) hget hcl (fun k hk => ?_)
    rcases hk with rfl | ⟨v, hv, hk⟩
    · exact .inl rfl
    · refine .inr ⟨v, ?_, hk⟩
      rw [World.cell?_of_block (w := W) (putObj_heap W l o' (by show w.heap.size ≠ l; omega))] at hv
      exact hv
  case assign =>
    intro l x W K hK
    dsimp only [encF]
    gi_wp2
    exact hK
  case body =>
    rintro l pre x W ⟨⟨v, hv, hrow, _⟩, hB⟩ hlen
    have hc := hv.cell
    have hz := hB.size
    have hsg := Seg.new W 9 #[.string ⟨x.1.f.name.toArray⟩] (strs [x.1.f.name]) rfl (by simp [strs, maxLen])
    have hown : Par.Own (W.alloc (.cells #[.string ⟨x.1.f.name.toArray⟩] 9)) w.heap.size 9 v (strs (namesOf pre)) := hrow.alloc _
    have hnr := hv.not_row (by decide) hrow
    have hns := namesOf_snoc pre x
    have hbd : (strs (namesOf pre)).length + (strs [x.1.f.name]).length ≤ 2147483648 := by rw [strs_length, strs_length, namesOf_length]; simp; omega
    generalize namesOf pre = ns at *
    have HNS := Lib.hid hns; clear hns
    have hbs : w.heap.size ≤ (W.alloc (.cells #[.string ⟨x.1.f.name.toArray⟩] 9)).heap.size := by simp; omega
    have HBD := Lib.hid hbd; clear hbd
    have HBS := Lib.hid hbs; clear hbs
    gi_wp2_with (gi_at_builtin; refine wpListIn_app _ rfl _ _ 56 rfl w.heap.size 9 _ strE _ _ rfl hown _ _ _ rfl hsg (one_strs _) HBD.out HBS.out ?_)
    intro v' w1 hown' hgrow hat1
    have hlen' : w1.ownsRow w.heap.size 9 1 v' ((strs ns).length + 1) (strs ns ++ strs [x.1.f.name]) := by
      unfold Par.Own at hown'
      rw [List.length_append] at hown'
      exact hown'
    clear hown'
    obtain ⟨g', cap', rfl⟩ := ownsRow_succ hlen'
    obtain ⟨hv1, hv2, hr2, hk2, hb2⟩ := hv.appended (by decide) hrow hB.size (Nat.le_refl _) hlen' hgrow
    have hc1 := hv1.cell
    have hf1 := hv1.frozen
    gi_wp2
    refine ⟨hk2, ?_, ⟨_, hv2, ?_, trivial⟩, hB.trans hb2⟩
    · refine ⟨hb2.size, fun k o hk _ hn => ?_, fun k hk => ?_⟩
      · have hkl := lt_of_block hk
        rw [Below.heap_setCell _ _ _ _ (fun e => hn (.inl e))]
        rw [hgrow.block k (by simp; omega) (fun e => hn (.inr ⟨v, hc, e.symm⟩))]
        rw [Below.heap_alloc _ _ _ hkl]
        exact hk
      · rcases hk with rfl | ⟨u, hu, hk⟩
        · exact .inl (.inl rfl)
        · rw [hv2.cell] at hu
          cases hu
          rcases hat1 with h1 | h1
          · rw [h1] at hk; exact .inl (.inr ⟨v, hc, hk⟩)
          · rw [h1] at hk; cases hk; right; simp
    · rw [HNS.out, strs_append, List.length_append]
      exact hr2
  case done =>
    rintro D ys W hD rfl ⟨⟨v, hv, hrow, _⟩, hB⟩ hK
    have hc := hv.cell
    have hz := hB.size
    gi_wp2
    refine ⟨by simp, .inl ⟨_, _, rfl, run_takeDeferred hK, ?_⟩⟩
    refine ⟨_, results_tmp rfl _ _ _, v, rfl, ?_, hB.trans (belowK_b (w := w) (Nat.le_refl _) W D _ _ (by simp at hD; omega) hK rfl rfl)⟩
    have hr := ownsRow_putObj hrow (.deferred none) hK rfl
    rw [namesOf_all, ← HFS.out] at hr
    exact hr
  case stop =>
    rintro D c pre W _ _ h _
    exact h.elim
end Go.Proofs.Ytpdelgjfamelfaa
