/- append upon the bytes of a string; Encode. -/
import Derived.Test.YtffblcefnckacaaDoorFX
import Derived.Lib.FrozenHead
namespace Go.Par
open Go Go.RowKit Go.Lib Go.Vfs
/-- cells are stored where no mark lies. -/
theorem run_storeCells_mark (P : Program) (g o : Nat) (t : TypeId) (fz : Nat × Nat) : ∀ (vs : List Value) (i : Nat) (cur : Array Value) (w : World), w.heap[g]? = some (.cells cur t fz) → cur.size ≤ fz.1 → o + i + vs.length ≤ cur.size → (∀ v ∈ vs, v.oneCell' = true) →
    (storeCells ⟨g, o, none⟩ vs i).run P w = .ok () (w.setRow g (cur.toList.take (o + i) ++ vs ++ cur.toList.drop (o + i + vs.length)).toArray)
  | [], i, cur, w, hg, _, _, _ => by
    simp only [storeCells, List.append_nil, List.length_nil, Nat.add_zero, List.take_append_drop, Array.toArray_toList]
    rw [setRow_self w g cur t fz hg]
    rfl
  | v :: rest, i, cur, w, hg, hfz, hl, h1 => by
    have hi : o + i < cur.size := by simp at hl; omega
    have hadd : (⟨g, o, none⟩ : Addr).add i = ⟨g, o + i, none⟩ := by unfold Addr.add; split <;> simp_all
    have hcell : w.cell? ⟨g, o + i, none⟩ = some cur[o + i] := by simp [World.cell?, hg, hi]
    have hfro : w.frozen? ⟨g, o + i, none⟩ = false := by
      obtain ⟨lo, hi'⟩ := fz
      simp only [World.frozen?, hg, Bool.and_eq_false_iff, decide_eq_false_iff_not]
      left
      simp only at hfz
      omega
    have hst : (store ((⟨g, o, none⟩ : Addr).add i) v).run P w = .ok () (w.setRow g (cur.setIfInBounds (o + i) v)) := by
      rw [hadd, run_store P w _ v _ (h1 v (by simp)), hcell]
      simp [hfro, setCell_eq_setRow w g (o + i) cur t fz v hg]
    have ih := run_storeCells_mark P g o t fz rest (i + 1) (cur.setIfInBounds (o + i) v) (w.setRow g (cur.setIfInBounds (o + i) v)) (setRow_heap w g cur _ t _ hg) (by simpa using hfz) (by simp at hl ⊢; omega) (fun x hx => h1 x (by simp [hx]))
    simp only [storeCells, Sem.run_bind, hst, Result.andThen_ok, ih, setRow_setRow]
    congr 3
    have e := list_seg_step cur.toList (o + i) v rest (by simp at hl ⊢; omega)
    simpa [Array.toList_setIfInBounds, Nat.add_assoc] using e
theorem run_append_room_mark {P : Program} (w : World) (t ty e : TypeId) (i : TypeInfo) (ht : P.underlying t = some (.slice e)) (hi : P.info? e = some i)
    (g sLen sCap : Nat) (cur : Array Value) (fz : Nat × Nat) (hg : w.heap[g]? = some (.cells cur e fz)) (hfz : cur.size ≤ fz.1)
    (a : Addr) (m c : Nat) (news : List Value) (hl : news.length = m * i.size) (hnews : ∀ j u, news[j]? = some u → w.cell? (a.add j) = some u) (h1 : ∀ u ∈ news, u.oneCell' = true)
    (hroom : sLen + m ≤ sCap) (hfit : sLen * i.size + news.length ≤ cur.size) :
    (Builtin.append_ #[t, t] ty #[.slice (some ⟨g, 0, none⟩) sLen sCap, .slice (some a) m c]).run P w =
      .ok (.slice (some ⟨g, 0, none⟩) (sLen + m) sCap) (w.setRow g (cur.toList.take (sLen * i.size) ++ news ++ cur.toList.drop (sLen * i.size + news.length)).toArray) := by
  have hf := run_firstCells_some (P := P) w i.size m a m c news hl hnews
  have hst := run_storeCells_mark P g (sLen * i.size) e fz news 0 cur w hg hfz (by simpa using hfit) h1
  simp only [Nat.add_zero] at hst
  simp [Builtin.append_, run_underlying ht, sizeOf, typeInfo, hi, Builtin.lenOf, hroom, hf, Addr.add_lit, hst]
theorem wpList_app_run {P : Program} (w : World) {ops : Array Oper} {rest : List Oper} {o : Oper} {a : Act} {Q : Exit → Act → World → Prop} (hgd : o.guard = none) (s x : Operand) (t : TypeId)
    (ho : o.op = .call { callee := .builtin .append, args := #[s, x], argTypes := #[t, t] }) (v' : Value) (w' : World)
    (hrun : (Builtin.append_ #[t, t] o.type #[a.eval s, a.eval x]).run P w = .ok v' w') (h : wpList P ops Q rest (a.put o.dst v') w') : wpList P ops Q (o :: rest) a w :=
  wpList_plain hgd fun K hK => by
    unfold Oper.wp execOp
    simp only [ho, resolve, invoke, builtin, Sem.run_bind, Sem.run_pure, Result.andThen_ok, List.map_toArray, List.map_cons, List.map_nil, hrun]
    exact hK _ _ h
end Go.Par
namespace Go.Proofs.YtffblcefnckacaaDoor
open Go.RowKit Go.Lib Go.Vfs Go.Par Go.Frm Go.Shelf
set_option linter.unusedVariables false
set_option linter.unusedSimpArgs false

/-- append upon a row of bytes that is marked behind its end. -/
theorem app_mark (w : World) (g cap : Nat) (cur : Array Value) (fz : Nat × Nat) (hg : w.heap[g]? = some (.cells cur 5 fz)) (hfz : cur.size ≤ fz.1) (hcs : cur.size = cap) (xs : List UInt8) (hn : xs.length ≤ cap) (hcm : cap ≤ maxLen) (htake : cur.toList.take xs.length = byteCells xs)
    (B : Nat) (u : Value) (ys : List UInt8) (hs : Seg w B u (byteCells ys)) (hbd : xs.length + ys.length ≤ 2147483648) :
    ∃ A' c' w', (Builtin.append_ #[22, 22] 22 #[.slice (some ⟨g, 0, none⟩) xs.length cap, u]).run Tryd.prog w = .ok (.slice A' (xs ++ ys).length c') w' ∧ SegS (fun k => k = g ∨ w.heap.size ≤ k) w' (.slice A' (xs ++ ys).length c') (byteCells (xs ++ ys)) ∧ Kept (· = g) w w' := by
  obtain ⟨i, bytes, hi, hz, hsz, hby, hbb⟩ := byteE.info
  have ht := byteE.und
  have hbytes : bytes = 1 := by
    have := Tryd.underlying5
    have h2 : (Tryd.prog.info? 5).map (·.bytes) = some 1 := by kernel_rfl
    rw [hi] at h2
    simp at h2
    omega
  obtain ⟨A, c, rfl, hc, hm, ha⟩ := hs
  rw [byteCells_length] at hc ha
  have hgl := lt_of_block hg
  have hold : SegS (fun k => k = g ∨ w.heap.size ≤ k) w (.slice (some ⟨g, 0, none⟩) xs.length cap) (byteCells xs) :=
    ⟨_, cap, by rw [byteCells_length], by rw [byteCells_length]; exact hn, hcm, fun hp => ⟨g, 0, rfl, .inl rfl, fun j hj => by
      rw [Nat.zero_add, cell_of_row w g j cur 5 fz hg, ← htake, List.getElem?_take]
      rw [byteCells_length] at hj
      rw [if_pos hj]; simp⟩⟩
  cases A with
  | none =>
    have h0 : ys = [] := by
      cases ys with
      | nil => rfl
      | cons y ys => obtain ⟨b, off, e, -⟩ := ha (by simp); cases e
    subst h0
    refine ⟨some ⟨g, 0, none⟩, cap, w, ?_, by rw [List.append_nil]; exact hold, Kept.refl _ _⟩
    simp [Builtin.append_, run_underlying ht, sizeOf, typeInfo, hi, Builtin.lenOf, Builtin.firstCells, hn, storeCells, byteCells]
  | some ad =>
    have hnews : ∀ j x, (byteCells ys)[j]? = some x → w.cell? (ad.add j) = some x := fun j x hj => by
      have hjl := (List.getElem?_eq_some_iff.1 hj).1
      rw [byteCells_length] at hjl
      obtain ⟨b, off, e, hb, hcell⟩ := ha (by omega)
      have e1 : ad = ⟨b, off, none⟩ := Option.some.inj e
      rw [e1, add_addr, hcell j hjl, hj]
    have hlen : (byteCells ys).length = ys.length * i.size := by rw [byteCells_length, hsz, Nat.mul_one]
    rw [byteCells_length]
    by_cases hroom : xs.length + ys.length ≤ cap
    · have hr := run_append_room_mark (P := Tryd.prog) w 22 22 5 i ht hi g xs.length cap cur fz hg hfz ad ys.length c (byteCells ys) hlen hnews (one_bytes ys) hroom (by rw [byteCells_length, hsz]; omega)
      rw [hsz, Nat.mul_one] at hr
      have hgn := setRow_heap w g cur (cur.toList.take xs.length ++ byteCells ys ++ cur.toList.drop (xs.length + (byteCells ys).length)).toArray 5 fz hg
      refine ⟨some ⟨g, 0, none⟩, cap, _, by rw [List.length_append]; exact hr, ?_, ?_⟩
      · refine ⟨_, cap, by rw [byteCells_length], by rw [byteCells_length, List.length_append]; exact hroom, hcm, fun hp => ⟨g, 0, rfl, .inl rfl, fun j hj => ?_⟩⟩
        rw [Nat.zero_add, cell_of_row _ g j _ 5 fz hgn, htake, byteCells_append]
        rw [byteCells_length, List.length_append] at hj
        simp only [List.getElem?_toArray]
        rw [List.getElem?_append_left (by rw [List.length_append, byteCells_length, byteCells_length]; omega)]
      · exact ⟨rfl, rfl, rfl, by simp, fun k _ hk => setRow_other w g k _ hk⟩
    · have holds : ∀ j x, (byteCells xs)[j]? = some x → w.cell? ((⟨g, 0, none⟩ : Addr).add j) = some x := fun j x hj => by
        rw [add_addr, Nat.zero_add, cell_of_row w g j cur 5 fz hg]
        rw [← htake, List.getElem?_take] at hj
        split at hj
        · simpa using hj
        · cases hj
      have hr := run_append_grow (P := Tryd.prog) w 22 22 5 i _ ht hi hz ⟨g, 0, none⟩ xs.length cap (byteCells xs) (by rw [byteCells_length, hsz, Nat.mul_one]) holds ad ys.length c (byteCells ys) hlen hnews (by omega) (by omega) (growslice_fits (by omega) (by rw [hby, hbytes]; omega))
      have hge := grownCap_ge w (xs.length + ys.length) cap 5
      have hcm2 : grownCap w (xs.length + ys.length) cap 5 ≤ maxLen := grownCap_le_maxLen w (xs.length + ys.length) cap 5 (by unfold maxLen; omega)
      refine ⟨some ⟨w.heap.size, 0, none⟩, grownCap w (xs.length + ys.length) cap 5, w.drew.alloc (.cells ((byteCells xs).toArray ++ (byteCells ys).toArray ++ Builtin.zeroCells (Value.int .u8 0).cells (grownCap w (xs.length + ys.length) cap 5 - (xs.length + ys.length))) 5), by rw [List.length_append]; exact hr, ?_, ⟨rfl, rfl, rfl, by simp, fun k hk _ => heap_alloc_old w.drew _ hk⟩⟩
      refine ⟨_, _, by rw [byteCells_length], by rw [byteCells_length, List.length_append]; exact hge, hcm2, fun hp => ⟨w.heap.size, 0, rfl, .inr (Nat.le_refl _), fun j hj => ?_⟩⟩
      rw [Nat.zero_add]
      have hnew := heap_alloc_new w.drew (.cells ((byteCells xs).toArray ++ (byteCells ys).toArray ++ Builtin.zeroCells (Value.int .u8 0).cells (grownCap w (xs.length + ys.length) cap 5 - (xs.length + ys.length))) 5)
      rw [byteCells_length, List.length_append] at hj
      refine (cell_of_row _ _ j _ 5 (0, 0) hnew).trans ?_
      rw [byteCells_append]
      rw [Array.getElem?_append_left (by rw [Array.size_append, List.size_toArray, List.size_toArray, byteCells_length, byteCells_length]; omega)]
      simp
/-- '[]byte(s)' -/
theorem bytes_of (s : ByteArray) (w : World) (hs : s.size ≤ 2147483648) : ∃ cap cur fz w1, (convert 9 22 (.string s)).run Tryd.prog w = .ok (.slice (some ⟨w.heap.size, 0, none⟩) s.size cap) w1 ∧ w1.heap[w.heap.size]? = some (.cells cur 5 fz) ∧ cur.size ≤ fz.1 ∧ cur.size = cap ∧ s.size ≤ cap ∧ cap ≤ maxLen ∧ cur.toList.take s.size = byteCells s.data.toList ∧ Below w.heap.size w w1 ∧ w1.heap.size = w.heap.size + 1 := by
  have hge := grownCap_ge w s.size 0 5
  have hle := grownCap_le_maxLen w s.size 0 5 (by unfold maxLen; omega)
  have hsz : (bytesRow s (grownCap w s.size 0 5)).size = grownCap w s.size 0 5 := by
    unfold bytesRow
    rw [Array.size_append, Array.size_map, Array.size_replicate]
    have : s.data.size = s.size := rfl
    omega
  refine ⟨_, _, _, _, run_bytes_of_string (P := Tryd.prog) w 9 22 5 s Tryd.underlying9 Tryd.underlying22 Tryd.underlying5, heap_alloc_new w.drew _, Nat.le_refl _, hsz, hge, hle, ?_, (Below.refl _ w).drew.alloc (by simp) _, by simp⟩
  unfold bytesRow
  rw [Array.toList_append, List.take_append_of_le_length (by rw [Array.length_toList, Array.size_map]; exact Nat.le_refl _)]
  rw [List.take_of_length_le (by rw [Array.length_toList, Array.size_map]; exact Nat.le_refl _), Array.toList_map]
  rfl

theorem cl_itoa (n : Nat) : Lib.itoa (n : Int) = decDigits n := by
  unfold Lib.itoa
  rw [if_neg (by omega)]
  simp
set_option maxRecDepth 20000 in
set_option maxHeartbeats 1000000 in
theorem encode_any (v : Value) (l : List UInt8) (w : World) (m : Int) (hs : Seg w w.heap.size v (byteCells l)) (hl : l.length ≤ 65536) (hG : Gl w m) :
    Calls Tryd.prog 12 #[v] w fun e w' => ∃ u, e = .returned (.tuple #[u, .int .i64 0]) ∧ SegS (fun k => w.heap.size ≤ k) w' u (byteCells (enc l)) ∧ Below w.heap.size w w' := by
  obtain ⟨A, c, rfl, hc, hm, -⟩ := hs.open_bytes
  have hit := Tryd.strconv_Itoa (l.length : Int) (by omega) (by omega) w hG.pow
  rw [cl_itoa] at hit
  have HS := Lib.hid hs; have HG := Lib.hid hG
  obtain ⟨E, hE⟩ : ∃ E : ByteArray, E = ⟨(decDigits l.length).toArray⟩ := ⟨_, rfl⟩
  rw [← hE] at hit
  obtain ⟨k5, hk5⟩ : ∃ k5, k5 = E.size := ⟨_, rfl⟩
  have hk6 : k5 ≤ 6 := by
    have h := decDigits_length l.length
    have h2 := nd_le 5 l.length (by omega)
    rw [hk5, hE]
    show (decDigits l.length).toArray.size ≤ 6
    simp only [List.size_toArray]
    omega
  have f0 : E.size = k5 := hk5.symm
  have f1 : ((⟨#[67, 111, 110, 116, 101, 110, 116, 45, 76, 101, 110, 103, 116, 104, 58, 32]⟩ : ByteArray) ++ E).size = 16 + k5 := by rw [ByteArray.size_append, f0]; rfl
  have f2 : ((⟨#[67, 111, 110, 116, 101, 110, 116, 45, 76, 101, 110, 103, 116, 104, 58, 32]⟩ : ByteArray) ++ E ++ (⟨#[13, 10]⟩ : ByteArray)).size = 18 + k5 := by rw [ByteArray.size_append, f1]; show 16 + k5 + 2 = _; omega
  obtain ⟨S, hS⟩ : ∃ S, S = (⟨#[67, 111, 110, 116, 101, 110, 116, 45, 76, 101, 110, 103, 116, 104, 58, 32]⟩ : ByteArray) ++ E ++ (⟨#[13, 10]⟩ : ByteArray) ++ (⟨#[13, 10]⟩ : ByteArray) := ⟨_, rfl⟩
  have hSs : S.size = 20 + k5 := by rw [hS, ByteArray.size_append, f2]; show 18 + k5 + 2 = _; omega
  have hSl : S.data.toList ++ l = enc l := by
    rw [hS, hE]
    simp [ByteArray.data_append, enc, clenLine, clenC]
  have hI : Hid (Calls Tryd.prog 25 #[.int .i64 (l.length : Int)] w fun e w1 => e = .returned (.string E) ∧ Hid (Below w.heap.size w w1)) := Lib.hid (by
    refine hit.mono ?_
    rintro e w1 ⟨rfl, k, os, rfl⟩
    refine ⟨rfl, Lib.hid ?_⟩
    refine ⟨rfl, rfl, rfl, by simp [Go.Sort.grow], fun j hj => ?_⟩
    show (w.heap ++ os)[j]? = _
    rw [Array.getElem?_append_left hj])
  have HSL := Lib.hid hSl
  clear hit hs hG hE hk5 hSl
  have g1 : ¬ (65536 : Int) < (l.length : Int) := by omega
  go_enter Tryd.func12, Tryd.ntmps12
  go_wp2_with (go_at_call 25; refine hI.out.mono ?_; rintro e w1 ⟨rfl, HB1⟩)
  obtain ⟨cap, cur, fz, w2, hr, hg, hfz, hcs, hn, hcm, htk, hb2, hsz2⟩ := bytes_of S w1 (by omega)
  have hz1 := HB1.out.size
  have hA2 : Seg w2 w1.heap.size (.slice A l.length c) (byteCells l) := ((HS.out.below HB1.out).more hz1).below hb2
  have hSll : S.data.toList.length = S.size := by rw [Lib.size_eq]
  obtain ⟨A', c', w3, hrun, hseg, hk⟩ := app_mark w2 w1.heap.size cap cur fz hg hfz hcs S.data.toList (by rw [hSll]; exact hn) hcm (by rw [hSll]; exact htk) _ _ l hA2 (by rw [hSll]; omega)
  rw [hSll, HSL.out] at hrun
  rw [HSL.out] at hseg
  rw [← hS, hr]
  simp only [Result.andThen]
  rw [Oper.upon_value]
  have HRUN := Lib.hid hrun; have HSEG := Lib.hid hseg; have HK := Lib.hid hk; have HB2 := Lib.hid hb2
  have hSz : S.size ≤ 30 := by omega
  clear hrun hseg hk hb2 hr hg hfz hcs htk hA2 hS hSs f0 f1 f2 hSll
  go_wp2_with (at_builtin; refine wpList_app_run _ rfl _ _ _ rfl _ _ HRUN.out ?_)
  go_wp2
  go_ret2
  refine ⟨_, rfl, HSEG.out.keep fun k hk => ⟨?_, rfl⟩, ?_⟩
  · rcases hk with rfl | hk <;> omega
  · exact (HB1.out.trans (HB2.out.mono hz1)).trans (HK.out.below (by omega) (fun k hk => by rw [hk]; exact hz1))
end Go.Proofs.YtffblcefnckacaaDoor
