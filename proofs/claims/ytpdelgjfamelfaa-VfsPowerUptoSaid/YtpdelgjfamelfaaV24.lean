import Derived.Test.YtpdelgjfamelfaaV23
import Derived.Deep.RegionWith
namespace Go.Proofs.Ytpdelgjfamelfaa
open Go.RowKit Go.Lib Go.Vfs Go.Par
set_option linter.unusedVariables false
set_option linter.unusedSimpArgs false

/-- what act does. -/
def actSt (st : St) (o : OpR) : St × Int :=
  if o.what = 1 then stAppend st o.name.data.toList o.parts.flatten
  else if o.what = 2 then stTruncate st o.name.data.toList o.n
  else if o.what = 3 then stRename st o.name.data.toList o.other.data.toList
  else if o.what = 4 then stRemove st o.name.data.toList
  else if o.what = 5 then stSync st o.name.data.toList
  else (st, 0)

theorem OpPost.pre {w w1 w' : World} {p : Nat} {F : Nat → Prop} {r : St × Int} {e : Ending} (hb : Below w.heap.size w w1) (h : OpPost w1 p F r e w') : OpPost w p F r e w' := by
  obtain ⟨F', h1, h2, h3, h4⟩ := h
  exact ⟨F', h1, h2, (Kept.of_below hb).trans' h3, fun k hk => (h4 k hk).imp id (fun h => Nat.le_trans hb.size h)⟩

theorem RowsAt.few {S : Nat → Prop} {w : World} {v : Value} {ls : List (List UInt8)} (h : RowsAt S w v ls) : ∃ A n c, v = .slice A n c := by
  obtain ⟨vs, _, ⟨A, c, h, _⟩, _⟩ := h
  exact ⟨A, _, c, h⟩
theorem mem_flat_le {ls : List (List UInt8)} : ∀ {l : List UInt8}, l ∈ ls → l.length ≤ sizeP ls := by
  induction ls with
  | nil => intro l hl; cases hl
  | cons a r ih =>
    intro l hl
    simp only [sizeP, List.map_cons, List.sum_cons] at ih ⊢
    rcases List.mem_cons.1 hl with rfl | hl
    · omega
    · have := ih hl; omega
theorem length_sizeP (ls : List (List UInt8)) : ls.length ≤ sizeP ls := by
  induction ls with
  | nil => simp
  | cons a l ih => simp only [sizeP, List.map_cons, List.sum_cons, List.length_cons] at ih ⊢; omega
theorem flat_sizeP (ls : List (List UInt8)) : ls.flatten.length ≤ sizeP ls := by
  induction ls with
  | nil => simp
  | cons a l ih => simp only [sizeP, List.map_cons, List.sum_cons, List.flatten_cons, List.length_append] at ih ⊢; omega

theorem act_box {w w2 : World} {cs : Array Value} {t : TypeId} {i : Nat} {v : Value} {W : World} (hb : Below W.heap.size W w2) (hW : W = (w.alloc (.cells cs t)).drew) (hc : cs[i]? = some v) : w2.cell? ⟨w.heap.size, i, none⟩ = some v := by
  subst hW
  rw [hb.cell (p := ⟨w.heap.size, i, none⟩) (by show _ < (w.alloc _).heap.size; simp)]
  show (w.alloc _).cell? _ = _
  rw [World.cell?_alloc_mark]
  exact hc
theorem act_below {w w2 : World} {o : Obj} (hb : Below ((w.alloc o).drew).heap.size (w.alloc o).drew w2) : Below w.heap.size w w2 := by
  have h0 : Below w.heap.size w (w.alloc o).drew := ((Below.refl _ w).alloc (Nat.le_refl _) _).drew
  exact h0.trans (hb.mono h0.size)
theorem act_rows {w w2 : World} {p : Nat} {st : St} {F : Nat → Prop} {o : Obj} {u : Value} {ls : List (List UInt8)} (h : Fsy w p st F) (hu : RowsAt (fun b => ((w.alloc o).drew).heap.size ≤ b ∧ b < w2.heap.size) w2 u ls) (hb : Below ((w.alloc o).drew).heap.size (w.alloc o).drew w2) : RowsAt (Out w2 F) w2 u ls :=
  hu.keep fun b hb' => ⟨⟨hb'.2, fun hf => by
    have h1 := h.lt b hf
    have h2 : w.heap.size ≤ (w.alloc o).drew.heap.size := by show _ ≤ (w.alloc _).heap.size; simp
    have := hb'.1; omega⟩, rfl⟩
theorem act_modest {st : St} {ls : List (List UInt8)} (h : Modest st (sizeP ls)) : Modest st ls.flatten.length := by
  have := flat_sizeP ls
  obtain ⟨h1, h2, h3, h4⟩ := h
  exact ⟨fun f hf => by have := h1 f hf; omega, by omega, h3, h4⟩

set_option maxRecDepth 20000 in
set_option maxHeartbeats 1000000 in
theorem act_app (w : World) (p : Nat) (st : St) (F : Nat → Prop) (h : Fsy w p st F) (o : OpR) (B : Nat) (hB : B ≤ w.heap.size) (hF : ∀ k, F k → B ≤ k) (ho : OpAt w B o) (hm : Modest st (sizeP o.parts)) (hp : sizeP o.parts ≤ 1000000) (hw : o.what = 1) :
    Calls Try.prog 27 #[.pointer (some ⟨p, 0, none⟩), .agg #[.int .i64 o.what, .int .i64 o.n, .string o.name, .string o.other, o.pv, o.kv]] w (OpPost w p F (actSt st o)) := by
  have hst : actSt st o = stAppend st o.name.data.toList o.parts.flatten := by unfold actSt; rw [if_pos hw]
  rw [hst]
  obtain ⟨what, n, name, other, pv, kv, parts, keeps⟩ := o
  have hw' : what = 1 := hw
  subst hw'
  obtain ⟨hrow, hints, hname, hother, hfew⟩ := ho
  simp only at hrow hints hname hother hfew hm hp ⊢
  obtain ⟨A1, n1, c1, hpv⟩ := hrow.few
  obtain ⟨A2, c2, hkv, -⟩ := hints
  have HR := Lib.hid hrow; have HF := Lib.hid h
  clear hrow h hst hw
  subst hpv hkv
  generalize hkl : (ints keeps).length = kl
  clear hkl
  have hcp : ∀ W, Below w.heap.size w W → Calls Try.prog 35 #[.slice A1 n1 c1] W fun e w' => ∃ u, e = .returned u ∧ RowsAt (fun b => W.heap.size ≤ b ∧ b < w'.heap.size) w' u parts ∧ Below W.heap.size W w' := fun W hb => copyRows_any (.slice A1 n1 c1) parts B W (HR.out.keep fun b hk => ⟨hk, (hb.mono hB).block b hk⟩) (Nat.le_trans hB hb.size) (by have := length_sizeP parts; omega) (fun l hl => by have := mem_flat_le hl; omega)
  have HCP := Lib.hid hcp; clear hcp
  go_enter Try.func27, Try.ntmps27
  go_wp2_with fail
  go_region_with (first
    | (go_at_call 35; refine (HCP.out _ (((Below.refl _ w).alloc (Nat.le_refl _) _).drew)).mono ?_; rintro e w2 ⟨u, rfl, hu, hb2⟩; obtain ⟨Au, nu, cu, rfl⟩ := hu.few; have HU := Lib.hid hu; have HB2 := Lib.hid hb2; clear hu hb2; have hc2 : w2.cell? ⟨w.heap.size, 2, none⟩ = some (.string name) := act_box HB2.out rfl rfl)
    | (go_at_call 17; refine (append_any w2 p st F (HF.out.below (act_below HB2.out)) name hname _ parts (act_rows HF.out HU.out HB2.out) (act_modest hm)).mono ?_; rintro e w3 ⟨F3, rfl, h1, h2, h3⟩))
  all_goals (
    go_wp2
    go_ret
    exact OpPost.pre (act_below HB2.out) ⟨F3, rfl, h1, h2, h3⟩)
end Go.Proofs.Ytpdelgjfamelfaa
