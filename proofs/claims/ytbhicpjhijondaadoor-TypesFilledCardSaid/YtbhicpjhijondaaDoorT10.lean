/- types.Right. -/
import Derived.Test.YtbhicpjhijondaaDoorT9
namespace Go.Typ
theorem TyAt.live {S : Nat → Prop} {W : World} {v : Value} {T : Ty} (h : TyAt S W v T) : TyAt (fun g => S g ∧ g < W.heap.size) W v T := by
  induction h with
  | mk k num name ts A c vs hc hm hn hcell hsub ih =>
    refine .mk k num name ts A c vs hc hm hn (fun h0 => ?_) ih
    obtain ⟨b, off, e, hb, hat⟩ := hcell h0
    exact ⟨b, off, e, ⟨hb, World.block_lt_of_cell? W _ (hat 0 h0 0 (by omega))⟩, hat⟩
/-- is it a right type? -/
def rightT (T : Ty) : Bool := decide (T.parts ≤ 300) && T.list.all fitsT
end Go.Typ
namespace Go.Proofs.YtbhicpjhijondaaDoor
open Go.RowKit Go.Lib Go.Vfs Go.Par Go.Typ Go.Shelf
set_option linter.unusedVariables false
set_option linter.unusedSimpArgs false
attribute [local go_sem] Oper.semAt_some

theorem one_cellT {W : World} {b : Nat} {u0 : Value} {t : TypeId} (h : W.heap[b]? = some (.cells #[u0] t (0, 0))) : W.cell? ⟨b, 0, none⟩ = some u0 ∧ W.frozen? ⟨b, 0, none⟩ = false := by
  simp [World.cell?, World.frozen?, h]
theorem one_setT {w : World} {b : Nat} {u x : Value} {t : TypeId} (h : w.heap[b]? = some (.cells #[u] t (0, 0))) : (w.setCell ⟨b, 0, none⟩ x).heap[b]? = some (.cells #[x] t (0, 0)) := by
  have := cells_put h 0 x
  simpa using this
theorem setCell_blk {w : World} {a : Addr} {x : Value} {k : Nat} (h : k ≠ a.block) : (w.setCell a x).heap[k]? = w.heap[k]? := Below.heap_setCell _ _ _ _ h
theorem below_putO {w W : World} {B q : Nat} {o : Obj} (h : Below B w W) (hq : B ≤ q) : Below B w (W.putObj q o) :=
  ⟨h.os, h.tape, h.output, by have := h.size; simpa using this, fun k hk => (World.putObj_heap_other (by omega)).trans (h.block k hk)⟩

theorem keepB_of {q : Nat} {W W' : World} (h : ∀ k, q ≤ k → k < W.heap.size → W'.heap[k]? = W.heap[k]?) : KeepB q W W' := fun r hb =>
  ⟨(h _ (by omega) (lt_blk hb.loop)).trans hb.loop, (h _ (Nat.le_refl _) (lt_blk hb.calls)).trans hb.calls⟩
theorem KeepB.t {q : Nat} {A B C : World} (h : KeepB q A B) (k : KeepB q B C) : KeepB q A C := fun r hb => k r (h r hb)
theorem TyK.set {n₀ b : Nat} {W : World} {u x : Value} {t : TypeId} (h : W.heap[b]? = some (.cells #[u] t (0, 0))) (ht : t ≠ 24) (hb : n₀ ≤ b) : TyK n₀ W (W.setCell ⟨b, 0, none⟩ x) :=
  ⟨(Below.refl _ _).setCell (p := ⟨b, 0, none⟩) hb _, by simp [World.setCell], fun k cs fz hk => setCell_blk (by
    rintro rfl
    rw [h] at hk
    injection hk with hk
    injection hk with _ hk
    exact ht hk)⟩

/-- types.parts. -/
theorem parts_any (k num : Int) (name : ByteArray) (A : Option Addr) (n c : Nat) (w : World) :
    Calls Tryd.prog 59 #[tyV k num name A n c] w fun e w' => e = .returned (.func (.func 91) #[] #[.pointer (some ⟨w.heap.size, 0, none⟩)]) ∧ w' = w.alloc (.cells #[.int .i64 k, .int .i64 num, .string name, .slice A n c] 24) := by
  unfold tyV
  go_enter Tryd.func59, Tryd.ntmps59
  go_wp2
  go_ret
  exact ⟨rfl, rfl⟩

set_option maxRecDepth 100000 in
set_option maxHeartbeats 1000000 in
/-- the iterator that types.parts answers. -/
theorem parts_told (w : World) (n n₀ bt : Nat) (T : Ty) (A : Option Addr) (c : Nat) (hbt : w.heap[bt]? = some (.cells #[.int .i64 T.kind, .int .i64 T.num, .string T.name, .slice A T.args.length c] 24 (0, 0)))
    (hT : TyAt (· < n₀) w (tyV T.kind T.num T.name A T.args.length c) T) (hn : n₀ ≤ w.heap.size) :
    SeqTold Fence.wide n Tryd.prog 91 #[.pointer (some ⟨bt, 0, none⟩)] (fun x : Value × Ty => #[x.1]) (fun x W => TyAt (· < n₀) W x.1 x.2) (fun W => n₀ ≤ W.heap.size) (TyK n₀) (fun xs => xs.map Prod.snd = T.list) (fun pre => pre.map Prod.snd <+: T.list) T.parts w := by
  intro l J Jx W hW hJ hJx hJR hY h0
  obtain ⟨y0, y1, y2, y3⟩ := box4 ((hW.block bt (lt_blk hbt)).trans hbt)
  have hTW : TyAt (· < n₀) W (tyV T.kind T.num T.name A T.args.length c) T := hT.keep fun g hg => ⟨hg, hW.block g (by omega)⟩
  have hwk := walk_in l n₀ T.parts J Jx hJ hJR (fun m pre x W1 hj hc hl => yield_any m (hY pre x W1 hj hc hl)) T (n - 1) _ [] W hTW h0 (by simp)
  unfold tyV at hwk
  have HW := Lib.hid hwk
  clear hwk hTW hW hbt hT
  refine callsIn_of_wp Tryd.func91 rfl trivial ?_ rfl
  simp only [Tryd.ntmps91, List.size_toArray, List.length_cons, List.length_nil, Nat.reduceAdd, Nat.reduceSub, Array.replicate_succ, Array.replicate_zero, List.push_toArray, List.append_toArray, List.nil_append, List.cons_append]
  gi_wp2_with (refine ⟨trivial, (fun h => by cases h), ?_⟩; gi_at_call 92; refine HW.out.mono ?_; rintro e W6 (⟨rfl, ⟨q, hq, hj⟩, hk⟩ | ⟨rfl, q, hq, hj⟩))
  · go_end0
    exact ⟨⟨_, rfl⟩, .inl ⟨q, hq, by simpa using hj⟩⟩
  · go_end0
    exact ⟨⟨_, rfl⟩, .inr ⟨q, hq, by simpa using hj⟩⟩

/-- the blocks of Right: its result, its count; the loop's books lie from q on. -/
structure RQ (w : World) (b1 b2 q : Nat) : Prop where
  l1 : w.heap.size ≤ b1
  l2 : w.heap.size ≤ b2
  h1 : b1 < q
  h2 : b2 < q
  ne : b1 ≠ b2
/-- between two rounds of Right. -/
structure RI (w : World) (b1 b2 q : Nat) (pre : List (Value × Ty)) (W : World) : Prop where
  res : W.heap[b1]? = some (.cells #[.bool false] 4 (0, 0))
  cnt : W.heap[b2]? = some (.cells #[.int .i64 (pre.length : Nat)] 3 (0, 0))
  few : pre.length ≤ 300
  fit : ∀ x ∈ pre, fitsT x.2 = true
  below : Below w.heap.size w W
  size : q ≤ W.heap.size
/-- a round has left. -/
structure RB (w : World) (b1 q : Nat) (pre : List (Value × Ty)) (W : World) : Prop where
  res : W.heap[b1]? = some (.cells #[.bool false] 4 (0, 0))
  bad : 300 < pre.length ∨ ∃ x ∈ pre, fitsT x.2 = false
  below : Below w.heap.size w W
  size : q ≤ W.heap.size
section
variable {w W W' : World} {b1 b2 q : Nat} {pre : List (Value × Ty)}
theorem RI.put {p : Nat} {o : Obj} (hq : RQ w b1 b2 q) (h : RI w b1 b2 q pre W) (hp : q ≤ p) : RI w b1 b2 q pre (W.putObj p o) := by
  obtain ⟨l1, l2, h1, h2, ne⟩ := hq
  exact ⟨(World.putObj_heap_other (by omega)).trans h.res, (World.putObj_heap_other (by omega)).trans h.cnt, h.few, h.fit, below_putO h.below (by omega), by have := h.size; simpa using this⟩
theorem RB.put {p : Nat} {o : Obj} (hq : RQ w b1 b2 q) (h : RB w b1 q pre W) (hp : q ≤ p) : RB w b1 q pre (W.putObj p o) := by
  obtain ⟨l1, l2, h1, h2, ne⟩ := hq
  exact ⟨(World.putObj_heap_other (by omega)).trans h.res, h.bad, below_putO h.below (by omega), by have := h.size; simpa using this⟩
theorem RI.blw (hq : RQ w b1 b2 q) (h : RI w b1 b2 q pre W) (hb : Below W.heap.size W W') : RI w b1 b2 q pre W' := by
  have hs := h.size
  obtain ⟨l1, l2, h1, h2, ne⟩ := hq
  exact ⟨(hb.block _ (by omega)).trans h.res, (hb.block _ (by omega)).trans h.cnt, h.few, h.fit, h.below.trans (hb.mono (by omega)), by have := hb.size; omega⟩
theorem RB.blw (hq : RQ w b1 b2 q) (h : RB w b1 q pre W) (hb : Below W.heap.size W W') : RB w b1 q pre W' := by
  have hs := h.size
  obtain ⟨l1, l2, h1, h2, ne⟩ := hq
  exact ⟨(hb.block _ (by omega)).trans h.res, h.bad, h.below.trans (hb.mono (by omega)), by have := hb.size; omega⟩
end

theorem fin_bool {w W : World} {tm : Array Value} {q b : Nat} {r : Bool} (t2 : tm.getD 2 undef = .pointer (some ⟨b, 0, none⟩)) (hd : W.heap[q]? = some (.deferred (some []))) (h2 : W.heap[b]? = some (.cells #[.bool r] 4 (0, 0))) (hb : Below w.heap.size w W) (hq : b ≠ q) (hz : w.heap.size ≤ q) :
    bodyPostM Fence.wide 7 Tryd.prog Tryd.f24 (fun e' w' => e' = .returned (.bool r) ∧ Below w.heap.size w w') .ret { tmps := tm, defers := [{ target := .collected q, args := #[] }] } W := by
  refine ⟨by simp, .inl ⟨_, _, rfl, run_takeDeferred hd, ?_⟩⟩
  have k2 : (W.putObj q (.deferred none)).cell? ⟨b, 0, none⟩ = some (.bool r) := (one_cellT ((World.putObj_heap_other hq).trans h2)).1
  refine ⟨.bool r, ?_, rfl, below_putO hb hz⟩
  have hrs : Tryd.f24.results = #[.cell 2 4] := rfl
  have a3 := Tryd.isAgg4; have z3 := Tryd.sizeOf4
  have t2' : tm[2]?.getD undef = .pointer (some ⟨b, 0, none⟩) := by simpa using t2
  simp [results, hrs, t2', k2, go_sem]

set_option maxRecDepth 100000 in
set_option maxHeartbeats 2000000 in
theorem right_any (T : Ty) (v : Value) (w : World) (hT : TyAt (· < w.heap.size) w v T) :
    Calls Tryd.prog 24 #[v] w fun e w' => e = .returned (.bool (rightT T)) ∧ Below w.heap.size w w' := by
  obtain ⟨A, c, rfl, hc, hm, hnm⟩ := hT.form
  have HT := Lib.hid hT
  clear hT hc hm hnm
  unfold tyV
  refine (callsIn_wide (n := 7)).1 ?_
  refine callsIn_of_wp_marks Tryd.func24 rfl trivial ?_ rfl
  simp only [Tryd.ntmps24, List.size_toArray, List.length_cons, List.length_nil, Nat.reduceAdd, Nat.reduceSub, Array.replicate_succ, Array.replicate_zero, List.push_toArray, List.append_toArray, List.nil_append, List.cons_append]
  gi_wp2_with (refine ⟨trivial, ?_⟩; gi_at_call 59; refine (callsIn_wide.2 (parts_any _ _ _ _ _ _ _)).mono ?_; rintro e w1 ⟨rfl, rfl⟩)
  obtain ⟨W0, hW0⟩ : ∃ W0, W0 = ((((w.alloc (.cells #[.int .i64 T.kind, .int .i64 T.num, .string T.name, .slice A T.args.length c] 24)).alloc (.cells #[.bool false] 4)).alloc (.cells #[.int .i64 0] 3)).alloc (.cells #[.int .i64 T.kind, .int .i64 T.num, .string T.name, .slice A T.args.length c] 24)) := ⟨_, rfl⟩
  rw [← hW0]
  have hs0 : W0.heap.size = w.heap.size + 4 := by rw [hW0]; simp
  have hb0 : Below w.heap.size w W0 := by
    rw [hW0]
    exact ((((Below.refl _ w).alloc (Nat.le_refl _) _).alloc (by simp) _).alloc (by simp; omega) _).alloc (by simp; omega) _
  have hk4 : W0.heap[w.heap.size + 1]? = some (.cells #[.bool false] 4 (0, 0)) ∧ W0.heap[w.heap.size + 2]? = some (.cells #[.int .i64 0] 3 (0, 0)) ∧ W0.heap[w.heap.size + 3]? = some (.cells #[.int .i64 T.kind, .int .i64 T.num, .string T.name, .slice A T.args.length c] 24 (0, 0)) := by
    rw [hW0]
    simp only [World.alloc, Array.getElem?_push, Array.size_push]
    refine ⟨?_, ?_, ?_⟩ <;> simp <;> omega
  obtain ⟨k1, k2, k3⟩ := hk4
  clear hW0
  have hT0 : TyAt (· < w.heap.size) W0 (tyV T.kind T.num T.name A T.args.length c) T := HT.out.keep fun g hg => ⟨hg, hb0.block g hg⟩
  have e2 : w.heap.size + 1 + 1 = w.heap.size + 2 := rfl
  have e3 : w.heap.size + 2 + 1 = w.heap.size + 3 := rfl
  rw [e2, e3]
  have hbt : w.heap.size + 3 < W0.heap.size := by omega
  obtain ⟨b0, hb0'⟩ : ∃ b, b = w.heap.size := ⟨_, rfl⟩
  obtain ⟨b1, hb1'⟩ : ∃ b, b = w.heap.size + 1 := ⟨_, rfl⟩
  obtain ⟨b2, hb2'⟩ : ∃ b, b = w.heap.size + 2 := ⟨_, rfl⟩
  obtain ⟨b3, hb3'⟩ : ∃ b, b = w.heap.size + 3 := ⟨_, rfl⟩
  have HRQ : Hid (RQ w b1 b2 (w.heap.size + 4)) := Lib.hid ⟨by omega, by omega, by omega, by omega, by omega⟩
  rw [← hb1'] at k1; rw [← hb2'] at k2; rw [← hb3'] at k3
  rw [← hb1', ← hb2', ← hb3']
  have HLT := Lib.hid (parts_told W0 6 w.heap.size b3 T A c k3 hT0 (by omega))
  have HRI0 : Hid (RI w b1 b2 (w.heap.size + 4) [] W0) := Lib.hid ⟨k1, k2, by simp, by simp, hb0, by omega⟩
  have HS0 := Lib.hid hs0
  clear k1 k2 k3 hT0 hb0 hs0 hbt e2 e3 hb1' hb2' hb3'
  refine wpIn_range_told (F := Fence.wide) rfl (by omega) (gf := 91) (lb := #[.pointer (some ⟨b3, 0, none⟩)]) rfl trivial (enters_of Tryd.func91 (by kernel_rfl) rfl)
    HLT.out (fun h k => h.t k) ?hKn ?hKb (fun _ => rfl)
    (fun pre W => RI w b1 b2 (w.heap.size + 4) pre W) (fun cd xs W => cd = .ret ∧ RB w b1 (w.heap.size + 4) xs W) ?hI ?hIp ?hIx ?hIxp ?hCb ?hCp ?hIR HRI0.out
    (fun x a' W => ∃ bp A' c', x.1 = tyV x.2.kind x.2.num x.2.name A' x.2.args.length c' ∧ W.heap[bp]? = some (.cells #[.int .i64 x.2.kind, .int .i64 x.2.num, .string x.2.name, .slice A' x.2.args.length c'] 24 (0, 0)) ∧ a' = { tmps := #[.agg #[.int .i64 T.kind, .int .i64 T.num, .string T.name, .slice A T.args.length c], .pointer (some ⟨w.heap.size, 0, none⟩), .pointer (some ⟨b1, 0, none⟩), .pointer (some ⟨b2, 0, none⟩), .pointer (some ⟨bp, 0, none⟩), .agg #[.int .i64 T.kind, .int .i64 T.num, .string T.name, .slice A T.args.length c], .func (.func 91) #[] #[.pointer (some ⟨b3, 0, none⟩)], x.1, undef, undef, undef, undef, undef, undef, undef, undef, undef], defers := [] })
    ?hAxp ?assign ?body ?done ?stop
  case hKn => exact fun hr hb => TyK.of hr hb
  case hKb =>
    intro W r r' hbk
    refine ⟨below_putO (Below.refl _ _) (by have := HS0.out; omega), by simp, fun k cs fz hk => World.putObj_heap_other ?_⟩
    rintro rfl
    rw [hbk.loop] at hk
    cases hk
  case hI => exact fun pre X Y hi hb => RI.blw HRQ.out hi hb
  case hIp => exact fun pre X r r' _ hi => RI.put HRQ.out hi (by have := HS0.out; omega)
  case hIx => exact fun cd pre X Y hi hb => ⟨hi.1, RB.blw HRQ.out hi.2 hb⟩
  case hIxp => exact fun cd pre X r r' _ hi => ⟨hi.1, RB.put HRQ.out hi.2 (by have := HS0.out; omega)⟩
  case hCb => exact fun x X Y hx hb => hx.live.keep fun g hg => ⟨hg.1, hb.block g hg.2⟩
  case hCp => exact fun x X r r' _ hx => hx.keep fun g hg => ⟨hg, World.putObj_heap_other (by have := HS0.out; omega)⟩
  case hIR => exact fun pre W hi => hi.below.size
  case hAxp =>
    rintro x a' W r r' hbk ⟨bp, A', c', e1, e2, e4⟩
    refine ⟨bp, A', c', e1, (World.putObj_heap_other ?_).trans e2, e4⟩
    rintro rfl
    rw [hbk.loop] at e2
    cases e2
  case assign =>
    rintro l0 x W K hC hK
    obtain ⟨A', c', e1, -, -, -⟩ := hC.form
    obtain ⟨x1, U⟩ := x
    dsimp only at e1
    subst e1
    have HK := Lib.hid hK; clear hK
    unfold tyV at HK ⊢
    gi_wp2
    refine HK.out _ _ ((Below.refl _ _).alloc (Nat.le_refl _) _) ⟨W.heap.size, A', c', rfl, heap_alloc_new _ _, rfl⟩
  case body =>
    rintro l0 pre ⟨x1, U⟩ a' W hi hC hlen ⟨bp, A', c', e1, hbp, rfl⟩ ⟨rr, hbk⟩
    dsimp only at e1 hC hbp
    subst e1
    have hne : bp ≠ b2 := by
      rintro rfl
      rw [hi.cnt] at hbp
      simp at hbp
    have hne2 : ¬ (b2 = bp) := fun h => hne h.symm
    obtain ⟨c0, f0⟩ := one_cellT hi.cnt
    obtain ⟨z0, z1, z2, z3⟩ := box4 hbp
    have h300 := hi.few
    have HI := Lib.hid hi; have HC := Lib.hid hC; have HBK := Lib.hid hbk
    have hb1n := HRQ.out.ne
    obtain ⟨c1, f1⟩ := one_cellT hi.res
    have hf60 : Fence.wide.fn 60 := trivial
    have hz := hi.size
    have hsz := hi.below.size
    obtain ⟨W2, hW2⟩ : ∃ W2, W2 = W.setCell ⟨b2, 0, none⟩ (.int .i64 ((pre.length : Int) + 1)) := ⟨_, rfl⟩
    have HZ2 : Hid (W2.heap.size = W.heap.size) := Lib.hid (by rw [hW2]; simp [World.setCell])
    have HK2 : Hid (TyK w.heap.size W W2) := Lib.hid (by rw [hW2]; exact TyK.set hi.cnt (by decide) HRQ.out.l2)
    have HBK2 : Hid (KeepB W0.heap.size W W2) := Lib.hid (by
      rw [hW2]; exact keepB_of fun k hk _ => setCell_blk (by have := HRQ.out.h2; have := HS0.out; dsimp only; omega))
    have HCN2 : Hid (W2.heap[b2]? = some (.cells #[.int .i64 ((pre.length : Int) + 1)] 3 (0, 0))) := Lib.hid (by rw [hW2]; exact one_setT hi.cnt)
    have HRS2 : Hid (W2.heap[b1]? = some (.cells #[.bool false] 4 (0, 0))) := Lib.hid (by rw [hW2, setCell_blk hb1n]; exact hi.res)
    have HF := Lib.hid (fits_any U _ W2 ((hC.keep (S' := (· < w.heap.size)) fun g hg => ⟨hg, HK2.out.below.block g hg⟩).sub fun g hg => by have := HZ2.out; omega))
    have HW2 := Lib.hid hW2
    clear hi hC hbk hbp hW2
    unfold tyV at HF ⊢
    rw [HW2.out] at HF
    obtain ⟨q, hq⟩ : ∃ q, q = fitsT U := ⟨_, rfl⟩
    rw [← hq] at HF
    have HQ := Lib.hid hq
    clear hq
    by_cases hover : pre.length = 300
    · have g1 : (300 : Int) < (pre.length : Int) + 1 := by omega
      have HO := Lib.hid hover
      clear hover
      gi_wp2
      rw [← HW2.out]
      refine ⟨KeepB.t HBK2.out (keepB_of fun k hk _ => setCell_blk (by have := HRQ.out.h1; have := HS0.out; dsimp only; omega)), rfl, ?_, .inl ?_, ?_, ?_⟩
      · exact one_setT HRS2.out
      · have := HO.out; rw [List.length_append, List.length_singleton]; omega
      · exact (HI.out.below.trans HK2.out.below).setCell (p := ⟨b1, 0, none⟩) HRQ.out.l1 _
      · have h2 := HZ2.out; have h3 := HI.out.size
        show w.heap.size + 4 ≤ (W2.heap.modify _ _).size
        simp; omega
    · have g1 : ¬ (300 : Int) < (pre.length : Int) + 1 := by omega
      have HO := Lib.hid hover
      clear hover
      cases q
      · gi_wp2_with (gi_at_call 60; refine (CallsIn.inRound l0 (callsIn_wide.2 HF.out)).mono ?_; rintro e w3 ⟨rfl, HB3⟩; rw [← HW2.out] at HB3; have hr3 := (HB3.block b1 (by have := HRQ.out.h1; have := HZ2.out; omega)).trans HRS2.out; obtain ⟨c3, f3⟩ := one_cellT hr3; have HR3 := Lib.hid hr3; clear hr3)
        refine ⟨KeepB.t (KeepB.t HBK2.out (keepB_of fun k _ hk => HB3.block k hk)) (keepB_of fun k hk _ => setCell_blk (by have := HRQ.out.h1; have := HS0.out; dsimp only; omega)), rfl, ?_, .inr ⟨_, List.mem_append_right _ (List.mem_singleton.2 rfl), HQ.out.symm⟩, ?_, ?_⟩
        · exact one_setT HR3.out
        · exact (HI.out.below.trans (HK2.out.below.trans (HB3.mono (by have := HZ2.out; omega)))).setCell (p := ⟨b1, 0, none⟩) HRQ.out.l1 _
        · have h1 := HB3.size; have h2 := HZ2.out; have h3 := HI.out.size
          show w.heap.size + 4 ≤ (w3.heap.modify _ _).size
          simp; omega
      · gi_wp2_with (gi_at_call 60; refine (CallsIn.inRound l0 (callsIn_wide.2 HF.out)).mono ?_; rintro e w3 ⟨rfl, HB3⟩; rw [← HW2.out] at HB3)
        have hsz3 : w.heap.size ≤ W2.heap.size := by have := HZ2.out; omega
        refine ⟨KeepB.t HBK2.out (keepB_of fun k _ hk => HB3.block k hk), HK2.out.t (TyK.of hsz3 HB3), ?_, ?_, ?_, ?_, ?_, ?_⟩
        · exact (HB3.block b1 (by have := HRQ.out.h1; have := HZ2.out; omega)).trans HRS2.out
        · rw [List.length_append, List.length_singleton]
          exact (HB3.block b2 (by have := HRQ.out.h2; have := HZ2.out; omega)).trans HCN2.out
        · have := HO.out; rw [List.length_append, List.length_singleton]; omega
        · intro y hy
          rcases List.mem_append.1 hy with hy | hy
          · exact HI.out.fit y hy
          · rw [List.mem_singleton.1 hy]; exact HQ.out.symm
        · exact HI.out.below.trans (HK2.out.below.trans (HB3.mono hsz3))
        · have h1 := HB3.size; have h2 := HZ2.out; omega
  case done =>
    rintro xs W hxs hi hK
    obtain ⟨c1, f1⟩ := one_cellT hi.res
    have HI := Lib.hid hi
    clear hi
    gi_wp2
    have hr : rightT T = true := by
      unfold rightT
      rw [Bool.and_eq_true, decide_eq_true_iff, List.all_eq_true]
      have h1 := congrArg List.length hxs
      rw [List.length_map, T.list_length] at h1
      refine ⟨by have := HI.out.few; omega, fun y hy => ?_⟩
      rw [← hxs] at hy
      obtain ⟨x, hx, rfl⟩ := List.mem_map.1 hy
      exact HI.out.fit x hx
    rw [hr]
    refine fin_bool (b := b1) (by rfl) ?_ (one_setT HI.out.res) (HI.out.below.setCell (p := ⟨b1, 0, none⟩) HRQ.out.l1 _) (by have := HRQ.out.h1; have := HS0.out; omega) (by have := HS0.out; omega)
    rw [setCell_blk (by have := HRQ.out.h1; have := HS0.out; dsimp only; omega)]
    exact hK
  case stop =>
    rintro cd xs W ⟨rs, hrs⟩ ⟨rfl, hi⟩ hK
    have HI := Lib.hid hi
    clear hi
    gi_wp2
    have hr : rightT T = false := by
      unfold rightT
      rw [Bool.and_eq_false_iff, decide_eq_false_iff_not]
      rcases HI.out.bad with h | ⟨x, hx, hf⟩
      · left
        have h1 := congrArg List.length hrs
        rw [T.list_length, List.length_append, List.length_map] at h1
        omega
      · right
        rw [List.all_eq_false]
        refine ⟨x.2, ?_, by rw [hf]; simp⟩
        rw [← hrs]
        exact List.mem_append_left _ (List.mem_map_of_mem hx)
    rw [hr]
    exact fin_bool (b := b1) (by rfl) hK HI.out.res HI.out.below (by have := HRQ.out.h1; have := HS0.out; omega) (by have := HS0.out; omega)
end Go.Proofs.YtbhicpjhijondaaDoor
