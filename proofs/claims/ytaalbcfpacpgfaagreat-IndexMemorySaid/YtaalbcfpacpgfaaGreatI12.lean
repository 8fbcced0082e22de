/- CopyEntries; law20.copied. -/
import Derived.Test.YtaalbcfpacpgfaaGreatI11
namespace Go.Proofs.YtaalbcfpacpgfaaGreat
open Go.RowKit Go.Lib Go.Vfs Go.Par Go.Typ Go.Shelf Go.Ix
set_option linter.unusedVariables false
set_option linter.unusedSimpArgs false

/-- exports that can be copied. -/
def ExsOk (e : En) : Prop := (∀ x ∈ e.exs, RowOk x.ty) ∧ e.exs.length ≤ 1000000
theorem copyExportsFC_any (xs : List Ex) (hp : ∀ x ∈ xs, RowOk x.ty) (v : Value) (w : World) (hX : ExsAt (· < w.heap.size) w v xs) (hl : xs.length ≤ 1000000) :
    Calls Tryz.prog 108 #[v] w fun e w' => ∃ A2 c2, e = .returned (.slice A2 xs.length c2) ∧ ExsC (fun g => w.heap.size ≤ g ∧ g < w'.heap.size) w' (.slice A2 xs.length c2) xs ∧ Below w.heap.size w w' := by
  refine (copyExportsCl_any xs hp v w hX hl).mono ?_
  rintro e w' ⟨v', rfl, h, hb⟩
  obtain ⟨A, c, rfl, -, -⟩ := (ExsC.at_ h).form
  exact ⟨A, c, rfl, h, hb⟩

set_option maxRecDepth 20000 in
set_option maxHeartbeats 2000000 in
theorem copyEntriesCl_any (es : List En) (hp : ∀ e ∈ es, ExsOk e) (v : Value) (w : World) (hX : EntsAt (· < w.heap.size) w v es) (hl : es.length ≤ 1000000) :
    Calls Tryz.prog 63 #[v] w fun e w' => ∃ v', e = .returned v' ∧ EntsC (fun g => w.heap.size ≤ g ∧ g < w'.heap.size) w' v' es ∧ Below w.heap.size w w' := by
  obtain ⟨A, c, rfl, hc, hm⟩ := hX.form
  have HX := Lib.hid hX; have HP := Lib.hid hp
  obtain ⟨W1, hW1⟩ : ∃ W1, W1 = w.alloc (.cells #[] 55) := ⟨_, rfl⟩
  have hb1 : Below w.heap.size w W1 := by rw [hW1]; exact (Below.refl _ _).alloc (Nat.le_refl _) _
  have HB1 := Lib.hid hb1
  have HMK : Hid (RowK 55 3 EntC w.heap.size w.heap.size W1 [] (.slice (some ⟨w.heap.size, 0, none⟩) 0 0) []) := Lib.hid (by rw [hW1]; exact RowK.made w (Nat.le_refl _))
  clear hX hc hm hp hb1
  go_enter Tryz.func63, Tryz.ntmps63
  go_wp2
  rw [← hW1]
  clear hW1
  go_loopw [3, 4] (fun sv iv W => ∃ (k : Nat) (us : List Value), k ≤ es.length ∧ iv = .int .i64 k ∧ Hid (RowK 55 3 EntC w.heap.size w.heap.size W (es.take k) sv us) ∧ Hid (Below w.heap.size w W)) (fun _ iv _ => es.length - (RowKit.intOf iv).toNat)
  case atStart => exact ⟨0, [], by omega, rfl, HMK, HB1⟩
  case round =>
    obtain ⟨k, us, hk, rfl, HR, HB⟩ := hrel
    by_cases hlt : k < es.length
    · obtain ⟨b, off, A', c', rfl, hb, hns, ht0, x0, x1, x2⟩ := (HX.out.keep (S' := (· < w.heap.size)) fun g hg => ⟨hg, HB.out.block g hg⟩).arg hlt
      have hzw := HB.out.size
      have ht := ht0.sub (S' := (· < wr.heap.size)) fun g (hg : g < w.heap.size) => by omega
      clear ht0
      have hd : Below wr.heap.size wr wr.drew := (Below.refl wr.heap.size _).drew
      have hxo := HP.out es[k] (List.getElem_mem hlt)
      have hca := copyExportsFC_any es[k].exs hxo.1 _ wr.drew (ht.blw hd) hxo.2
      have HTK : Hid (es.take (k + 1) = es.take k ++ [es[k]]) := Lib.hid (by rw [List.take_succ_eq_append_getElem hlt])
      have hlk : (es.take k).length = k := by rw [List.length_take]; omega
      have HLK := Lib.hid hlk
      have HNS := Lib.hid hns
      have HRD := Lib.hid (RowK.below (R := EntC) EntC.keep HR.out hd)
      have HBD : Hid (Below w.heap.size w wr.drew) := Lib.hid (HB.out.trans (hd.mono HB.out.size))
      have hzb := HBD.out.size
      have hbz : b < w.heap.size := hb
      have HSK : Hid (∀ W' : World, Below w.heap.size wr W' → W'.cell? ⟨b, off + k * 3, none⟩ = some (.string es[k].uri) ∧ W'.cell? ⟨b, off + k * 3 + 1, none⟩ = some (.int .i64 es[k].ver) ∧ W'.cell? ⟨b, off + k * 3 + 2, none⟩ = some (.slice A' es[k].exs.length c')) :=
        Lib.hid fun W' h => ⟨(h.cell (p := ⟨_, _, none⟩) hbz).trans x0, (h.cell (p := ⟨_, _, none⟩) hbz).trans x1, (h.cell (p := ⟨_, _, none⟩) hbz).trans x2⟩
      have HDW : Hid (Below w.heap.size wr wr.drew) := Lib.hid (Below.refl _ _).drew
      have HS0 := Lib.hid (HSK.out wr.drew HDW.out)
      clear ht hlk hd hns hbz hxo
      generalize es[k] = X at *
      have HCA := Lib.hid hca
      clear hca
      go_wp2_with fail
      refine wp_region_held (S := (fun w2 : World => w2.cell? ⟨b, off + k * 3, none⟩ = some (.string X.uri) ∧ w2.cell? ⟨b, off + k * 3 + 1, none⟩ = some (.int .i64 X.ver) ∧ w2.cell? ⟨b, off + k * 3 + 2, none⟩ = some (.slice A' X.exs.length c'))) (by kernel_rfl) ?_
      refine takeD (i := 0) (s := 12) (v := u3) rfl rfl (by kernel_rfl) (by kernel_rfl) (by kernel_rfl) (fun _ _ _ h => h) (Or.inl ⟨by rfl, fun w' hS => by obtain ⟨s0, s1, s2⟩ := hS; go_simp⟩) HS0.out ?_
      try simp only [List.setIfInBounds_toArray, List.set_cons_zero, List.set_cons_succ]
      refine takeD (i := 1) (s := 13) (v := .slice (some ⟨b, off, none⟩) es.length c) rfl rfl (by kernel_rfl) (by kernel_rfl) (by kernel_rfl) (fun _ _ _ h => h) (Or.inl ⟨by rfl, fun w' hS => by obtain ⟨s0, s1, s2⟩ := hS; go_simp⟩) HS0.out ?_
      try simp only [List.setIfInBounds_toArray, List.set_cons_zero, List.set_cons_succ]
      refine takeD (i := 2) (s := 14) (v := .int .i64 k) rfl rfl (by kernel_rfl) (by kernel_rfl) (by kernel_rfl) (fun _ _ _ h => h) (Or.inl ⟨by rfl, fun w' hS => by obtain ⟨s0, s1, s2⟩ := hS; go_simp⟩) HS0.out ?_
      try simp only [List.setIfInBounds_toArray, List.set_cons_zero, List.set_cons_succ]
      refine takeD (i := 3) (s := 15) (v := .pointer (some ⟨b, off + k * 3, none⟩)) rfl rfl (by kernel_rfl) (by kernel_rfl) (by kernel_rfl) (fun _ _ _ h => h) (Or.inl ⟨by rfl, fun w' hS => by obtain ⟨s0, s1, s2⟩ := hS; go_simp⟩) HS0.out ?_
      try simp only [List.setIfInBounds_toArray, List.set_cons_zero, List.set_cons_succ]
      refine takeD (i := 4) (s := 16) (v := .pointer (some ⟨b, off + k * 3, none⟩)) rfl rfl (by kernel_rfl) (by kernel_rfl) (by kernel_rfl) (fun _ _ _ h => h) (Or.inl ⟨by rfl, fun w' hS => by obtain ⟨s0, s1, s2⟩ := hS; go_simp⟩) HS0.out ?_
      try simp only [List.setIfInBounds_toArray, List.set_cons_zero, List.set_cons_succ]
      refine takeD (i := 5) (s := 17) (v := .string X.uri) rfl rfl (by kernel_rfl) (by kernel_rfl) (by kernel_rfl) (fun _ _ _ h => h) (Or.inl ⟨by rfl, fun w' hS => by obtain ⟨s0, s1, s2⟩ := hS; go_simp⟩) HS0.out ?_
      try simp only [List.setIfInBounds_toArray, List.set_cons_zero, List.set_cons_succ]
      refine takeD (i := 6) (s := 18) (v := .slice (some ⟨b, off, none⟩) es.length c) rfl rfl (by kernel_rfl) (by kernel_rfl) (by kernel_rfl) (fun _ _ _ h => h) (Or.inl ⟨by rfl, fun w' hS => by obtain ⟨s0, s1, s2⟩ := hS; go_simp⟩) HS0.out ?_
      try simp only [List.setIfInBounds_toArray, List.set_cons_zero, List.set_cons_succ]
      refine takeD (i := 7) (s := 19) (v := .int .i64 k) rfl rfl (by kernel_rfl) (by kernel_rfl) (by kernel_rfl) (fun _ _ _ h => h) (Or.inl ⟨by rfl, fun w' hS => by obtain ⟨s0, s1, s2⟩ := hS; go_simp⟩) HS0.out ?_
      try simp only [List.setIfInBounds_toArray, List.set_cons_zero, List.set_cons_succ]
      refine takeD (i := 8) (s := 20) (v := .pointer (some ⟨b, off + k * 3, none⟩)) rfl rfl (by kernel_rfl) (by kernel_rfl) (by kernel_rfl) (fun _ _ _ h => h) (Or.inl ⟨by rfl, fun w' hS => by obtain ⟨s0, s1, s2⟩ := hS; go_simp⟩) HS0.out ?_
      try simp only [List.setIfInBounds_toArray, List.set_cons_zero, List.set_cons_succ]
      refine takeD (i := 9) (s := 21) (v := .pointer (some ⟨b, off + k * 3 + 1, none⟩)) rfl rfl (by kernel_rfl) (by kernel_rfl) (by kernel_rfl) (fun _ _ _ h => h) (Or.inl ⟨by rfl, fun w' hS => by obtain ⟨s0, s1, s2⟩ := hS; go_simp⟩) HS0.out ?_
      try simp only [List.setIfInBounds_toArray, List.set_cons_zero, List.set_cons_succ]
      refine takeD (i := 10) (s := 22) (v := .int .i64 X.ver) rfl rfl (by kernel_rfl) (by kernel_rfl) (by kernel_rfl) (fun _ _ _ h => h) (Or.inl ⟨by rfl, fun w' hS => by obtain ⟨s0, s1, s2⟩ := hS; go_simp⟩) HS0.out ?_
      try simp only [List.setIfInBounds_toArray, List.set_cons_zero, List.set_cons_succ]
      refine takeD (i := 11) (s := 23) (v := .slice (some ⟨b, off, none⟩) es.length c) rfl rfl (by kernel_rfl) (by kernel_rfl) (by kernel_rfl) (fun _ _ _ h => h) (Or.inl ⟨by rfl, fun w' hS => by obtain ⟨s0, s1, s2⟩ := hS; go_simp⟩) HS0.out ?_
      try simp only [List.setIfInBounds_toArray, List.set_cons_zero, List.set_cons_succ]
      refine takeD (i := 12) (s := 24) (v := .int .i64 k) rfl rfl (by kernel_rfl) (by kernel_rfl) (by kernel_rfl) (fun _ _ _ h => h) (Or.inl ⟨by rfl, fun w' hS => by obtain ⟨s0, s1, s2⟩ := hS; go_simp⟩) HS0.out ?_
      try simp only [List.setIfInBounds_toArray, List.set_cons_zero, List.set_cons_succ]
      refine takeD (i := 13) (s := 25) (v := .pointer (some ⟨b, off + k * 3, none⟩)) rfl rfl (by kernel_rfl) (by kernel_rfl) (by kernel_rfl) (fun _ _ _ h => h) (Or.inl ⟨by rfl, fun w' hS => by obtain ⟨s0, s1, s2⟩ := hS; go_simp⟩) HS0.out ?_
      try simp only [List.setIfInBounds_toArray, List.set_cons_zero, List.set_cons_succ]
      refine takeD (i := 14) (s := 26) (v := .pointer (some ⟨b, off + k * 3 + 2, none⟩)) rfl rfl (by kernel_rfl) (by kernel_rfl) (by kernel_rfl) (fun _ _ _ h => h) (Or.inl ⟨by rfl, fun w' hS => by obtain ⟨s0, s1, s2⟩ := hS; go_simp⟩) HS0.out ?_
      try simp only [List.setIfInBounds_toArray, List.set_cons_zero, List.set_cons_succ]
      refine takeD (i := 15) (s := 27) (v := .slice A' X.exs.length c') rfl rfl (by kernel_rfl) (by kernel_rfl) (by kernel_rfl) (fun _ _ _ h => h) (Or.inl ⟨by rfl, fun w' hS => by obtain ⟨s0, s1, s2⟩ := hS; go_simp⟩) HS0.out ?_
      try simp only [List.setIfInBounds_toArray, List.set_cons_zero, List.set_cons_succ]
      refine wpAnyH_all (rs := [16]) (by kernel_rfl) (by simp) ?_
      intro i hi
      simp only [List.mem_cons, List.not_mem_nil, or_false] at hi
      subst hi
      refine wpOp_ofQ rfl rfl (fun K hK => ?_)
      go_simp
      refine HCA.out.mono ?_
      rintro e w2 ⟨A2, c2, rfl, hu, HB3⟩
      have hr2 := RowK.below (R := EntC) EntC.keep HRD.out HB3
      have HR2 := Lib.hid hr2
      have HU : Hid (EntC (fun g => wr.heap.size ≤ g ∧ g < w2.heap.size) w2 (enV X A2 c2) X) := Lib.hid ⟨A2, c2, rfl, HNS.out, hu⟩
      have hown := hr2.own
      rw [HLK.out] at hown
      obtain ⟨us', hus⟩ : ∃ us', us' = us.flatMap flatC := ⟨_, rfl⟩
      rw [← hus] at hown
      have hz2 : wr.heap.size ≤ w2.heap.size := HB3.size
      have HBW2 : Hid (Below w.heap.size w w2) := Lib.hid (HBD.out.trans (HB3.mono hzb))
      have HB3' : Below w.heap.size wr w2 := HDW.out.trans (HB3.mono hzb)
      have HS2 := Lib.hid (HSK.out w2 HB3')
      clear hr2 hu
      refine hK _ _ ⟨HS2.out, ?_⟩
      clear hK K
      try simp only [List.setIfInBounds_toArray, List.set_cons_zero, List.set_cons_succ]
      refine takeD (i := 17) (s := 29) (v := .agg #[.string X.uri, .int .i64 X.ver, .slice A2 X.exs.length c2]) rfl rfl (by kernel_rfl) (by kernel_rfl) (by kernel_rfl) (fun _ _ _ h => h) (Or.inl ⟨by rfl, fun w' hS => by obtain ⟨s0, s1, s2⟩ := hS; go_simp⟩) HS2.out ?_
      try simp only [List.setIfInBounds_toArray, List.set_cons_zero, List.set_cons_succ]
      refine wpAnyH_all (rs := [18]) (by kernel_rfl) (by simp) ?_
      intro i hi
      simp only [List.mem_cons, List.not_mem_nil, or_false] at hi
      subst hi
      refine wpOp_ofQ rfl rfl (fun K hK => ?_)
      go_simp
      have HS3 := Lib.hid (HSK.out (w2.alloc (.cells #[.string X.uri, .int .i64 X.ver, .slice A2 X.exs.length c2] 55)) (HB3'.alloc (by omega) _))
      refine hK _ _ ⟨HS3.out, ?_⟩
      clear hK K
      try simp only [List.setIfInBounds_toArray, List.set_cons_zero, List.set_cons_succ]
      refine wpAnyH_all (rs := [19]) (by kernel_rfl) (by simp) ?_
      intro i hi
      simp only [List.mem_cons, List.not_mem_nil, or_false] at hi
      subst hi
      refine wpOp_ofQ rfl rfl (fun K hK => ?_)
      refine wp_appK _ (.tmp 12) (.tmp 30) 45 rfl w.heap.size 55 3 enE _ k us' rfl (World.ownsRow.alloc hown _) ⟨w2.heap.size, 0, none⟩ 1 1 [.string X.uri, .int .i64 X.ver, .slice A2 X.exs.length c2] rfl rfl (cells_new _ _ _) (one3 _ _ _ _ _) (by omega) (by simp; omega) (fun v3 w3 hown3 hg3 hat3 => ?_)
      have HS4 := Lib.hid (HSK.out w3 (below_grow HB3' (by omega) _ hg3 (fun g e => (hown.lt g e).1)))
      refine hK _ _ ⟨HS4.out, ?_⟩
      clear hK K
      try simp only [List.setIfInBounds_toArray, List.set_cons_zero, List.set_cons_succ]
      refine takeD (i := 20) (s := 3) (v := v3) rfl rfl (by kernel_rfl) (by kernel_rfl) (by kernel_rfl) (fun _ _ _ h => h) (Or.inl ⟨by rfl, fun w' hS => by obtain ⟨s0, s1, s2⟩ := hS; go_simp⟩) HS4.out ?_
      try simp only [List.setIfInBounds_toArray, List.set_cons_zero, List.set_cons_succ]
      refine wpAnyH_done (by kernel_rfl) ?_ _
      go_wp2
      go_roundw
      case rel =>
        refine ⟨k + 1, us ++ [enV X A2 c2], by omega, by go_num, Lib.hid ?_, Lib.hid ?_⟩
        · rw [HTK.out]
          refine RowK.next (R := EntC) EntC.keep HR2.out HU.out (fun g hg => ⟨by omega, hg.2, fun e => ?_⟩) rfl _ ?_ hg3 hat3
          · have := HR.out.lt g e; omega
          · rw [HLK.out, ← hus]; exact hown3
        · exact below_grow HBW2.out (by omega) _ hg3 (fun g e => (hown.lt g e).1)
      case measure => simp [RowKit.intOf]; omega
    · have hkl : k = es.length := by omega
      have hr := HR.out
      rw [hkl, List.take_length] at hr
      have HE := Lib.hid hr.entsC
      clear hr
      go_wp2
      go_ret
      exact ⟨_, rfl, EntsC.keep HE.out fun g hg => ⟨⟨by omega, hg.2⟩, rfl⟩, HB.out⟩
/-- a row of one entry, just laid. -/
theorem EntsAt.one {S : Nat → Prop} {W : World} {e : En} {A : Option Addr} {c : Nat} (hn : e.uri.size ≤ 9223372036854775807) (hx : ExsAt (· < W.heap.size) W (.slice A e.exs.length c) e.exs) (o : Obj) (ho : o = .cells #[.string e.uri, .int .i64 e.ver, .slice A e.exs.length c] 55) :
    EntsAt (· < (W.alloc o).heap.size) (W.alloc o) (.slice (some ⟨W.heap.size, 0, none⟩) 1 1) [e] := by
  subst ho
  have hb : Below W.heap.size W (W.alloc (.cells #[.string e.uri, .int .i64 e.ver, .slice A e.exs.length c] 55)) := (Below.refl _ _).alloc (Nat.le_refl _) _
  have hbx := heap_alloc_new W (.cells #[.string e.uri, .int .i64 e.ver, .slice A e.exs.length c] 55)
  refine ⟨_, 1, rfl, by simp, by simp [maxLen], fun _ => enV e A c, fun _ => ⟨W.heap.size, 0, rfl, by simp, fun i hi j hj => ?_⟩, fun i hi => ?_⟩
  · have : i = 0 := by simpa using hi
    subst this
    obtain ⟨y0, y1, y2⟩ := box3 hbx
    have : j = 0 ∨ j = 1 ∨ j = 2 := by omega
    rcases this with rfl | rfl | rfl
    · exact y0
    · exact y1
    · exact y2
  · have : i = 0 := by simpa using hi
    subst this
    exact ⟨A, c, rfl, hn, hx.blw hb⟩

set_option maxRecDepth 20000 in
set_option maxHeartbeats 2000000 in
theorem copiedCl_any20 (E : En) (hp : ExsOk E) (v : Value) (w : World) (hX : EntAt (· < w.heap.size) w v E) :
    Calls Tryz.prog 20 #[v] w fun e w' => ∃ A c, e = .returned (.agg #[.string E.uri, .int .i64 E.ver, .slice A E.exs.length c]) ∧ ExsC (fun g => w.heap.size ≤ g ∧ g < w'.heap.size) w' (.slice A E.exs.length c) E.exs ∧ Below w.heap.size w w' := by
  obtain ⟨A, c, rfl, hus, hex⟩ := hX
  obtain ⟨W2, hW2⟩ : ∃ W2, W2 = (w.alloc (.cells #[.string E.uri, .int .i64 E.ver, .slice A E.exs.length c] 55)).alloc (.cells #[.string ⟨#[]⟩, .int .i64 0, .slice none 0 0] 55) := ⟨_, rfl⟩
  have hb2 : Below w.heap.size w W2 := by rw [hW2]; exact ((Below.refl _ _).alloc (Nat.le_refl _) _).alloc (by simp) _
  have hz2 : W2.heap.size = w.heap.size + 2 := by rw [hW2]; simp
  have hbx : W2.heap[w.heap.size]? = some (.cells #[.string E.uri, .int .i64 E.ver, .slice A E.exs.length c] 55 (0, 0)) := by
    rw [hW2, Below.heap_alloc _ _ _ (by simp)]; exact heap_alloc_new _ _
  have hby : W2.heap[w.heap.size + 1]? = some (.cells #[.string ⟨#[]⟩, .int .i64 0, .slice none 0 0] 55 (0, 0)) := by
    rw [hW2]
    have := heap_alloc_new (w.alloc (.cells #[.string E.uri, .int .i64 E.ver, .slice A E.exs.length c] 55)) (.cells #[.string ⟨#[]⟩, .int .i64 0, .slice none 0 0] 55)
    simpa using this
  obtain ⟨W3, hW3⟩ : ∃ W3, W3 = W2.alloc (.cells #[.string E.uri, .int .i64 E.ver, .slice A E.exs.length c] 55) := ⟨_, rfl⟩
  have hb3 : Below W2.heap.size W2 W3 := by rw [hW3]; exact (Below.refl _ _).alloc (Nat.le_refl _) _
  have hone : EntsAt (· < W3.heap.size) W3 (.slice (some ⟨W2.heap.size, 0, none⟩) 1 1) [E] := by
    rw [hW3]
    exact EntsAt.one (S := fun _ => True) hus (hex.blw hb2) _ rfl
  have HCE := Lib.hid (copyEntriesCl_any [E] (fun e he => by simp at he; subst he; exact hp) _ W3 hone (by simp))
  have HB2 := Lib.hid hb2; have HZ2 := Lib.hid hz2; have HB3 := Lib.hid hb3
  have HBY := Lib.hid ((hb3.block _ (by omega)).trans hby)
  have y := box3 hbx
  rw [hW2] at y
  obtain ⟨y0, y1, y2⟩ := y
  rw [hW2] at hW3
  clear hex hone hb2 hz2 hb3 hbx hby hp hW2
  unfold enV
  go_enter Tryz.func20, Tryz.ntmps20
  go_wp2_with fail
  rw [show (w.heap.size + 1 + 1) = W2.heap.size from HZ2.out.symm, ← hW3]
  clear hW3 y0 y1 y2
  refine HCE.out.mono ?_
  rintro e w4 ⟨v4, rfl, h4, hb4⟩
  obtain ⟨A4, c4, rfl, hc4, -⟩ := (EntsC.at_ h4).form
  obtain ⟨b, off, A5, c5, rfl, hbb, -, hx5, z0, z1, z2⟩ := EntsAt.arg (show EntsAt _ _ _ _ from h4) (show 0 < [E].length by simp)
  simp only [List.getElem_cons_zero, Nat.zero_mul, Nat.add_zero] at z0 z1 z2 hx5
  have hz4 := hb4.size
  have hz3 := HB3.out.size
  have hz20 := HZ2.out
  have hby4 := (hb4.block _ (by omega)).trans HBY.out
  obtain ⟨y0, y1, y2⟩ := box3 hby4
  obtain ⟨q0, q1, q2⟩ := box3_frozen hby4
  have hbw : Below w.heap.size w w4 := (HB2.out.trans (HB3.out.mono (by omega))).trans (hb4.mono (by omega))
  have hc1 : 1 ≤ c4 := by simpa using hc4
  have hput := put3 (.string E.uri) (.int .i64 E.ver) (.slice A5 E.exs.length c5) hby4
  have hkf := kept3 (F := (· = w.heap.size + 1)) (Kept.refl _ w4) (.inl rfl) (.string E.uri) (.int .i64 E.ver) (.slice A5 E.exs.length c5)
  obtain ⟨Wf, hWf⟩ : ∃ Wf, Wf = (((w4.setCell ⟨w.heap.size + 1, 0, none⟩ (.string E.uri)).setCell ⟨w.heap.size + 1, 1, none⟩ (.int .i64 E.ver)).setCell ⟨w.heap.size + 1, 2, none⟩ (.slice A5 E.exs.length c5)) := ⟨_, rfl⟩
  rw [← hWf] at hput hkf
  obtain ⟨f0, f1, f2⟩ := box3 hput
  have HF : Hid (∃ A c, Ending.returned (.agg #[.string E.uri, .int .i64 E.ver, .slice A5 E.exs.length c5]) = .returned (.agg #[.string E.uri, .int .i64 E.ver, .slice A E.exs.length c]) ∧ ExsC (fun g => w.heap.size ≤ g ∧ g < Wf.heap.size) Wf (.slice A E.exs.length c) E.exs ∧ Below w.heap.size w Wf) := Lib.hid (by
    refine ⟨A5, c5, rfl, ExsC.keep hx5 fun g hg => ⟨by have := hkf.size; omega, hkf.block g hg.2 (by omega)⟩, hbw.trans (hkf.below (by omega) (fun k hk => by omega))⟩)
  clear h4 hb4 hx5 hby4 hput hkf hbw HCE
  go_wp2
  rw [← hWf]
  refine bodyPost_ret (v := .agg #[.string E.uri, .int .i64 E.ver, .slice A5 E.exs.length c5]) (by simp [results, Tryz.results20, go_sem, f0, f1, f2]) rfl ?_
  exact HF.out
theorem copied_any20 (E : En) (hp : ExsOk E) (v : Value) (w : World) (hX : EntAt (· < w.heap.size) w v E) :
    Calls Tryz.prog 20 #[v] w fun e w' => ∃ A c, e = .returned (.agg #[.string E.uri, .int .i64 E.ver, .slice A E.exs.length c]) ∧ ExsAt (fun g => w.heap.size ≤ g ∧ g < w'.heap.size) w' (.slice A E.exs.length c) E.exs ∧ Below w.heap.size w w' :=
  (copiedCl_any20 E hp v w hX).mono (by rintro e w' ⟨A, c, rfl, h, hb⟩; exact ⟨A, c, rfl, ExsC.at_ h, hb⟩)
end Go.Proofs.YtaalbcfpacpgfaaGreat
