/- The reference's match and Instance. -/
import Derived.Test.YtbhicpjhijondaaDoorL19
namespace Go.Proofs.YtbhicpjhijondaaDoor
open Go.RowKit Go.Lib Go.Vfs Go.Par Go.Typ Go.Shelf
set_option linter.unusedVariables false
set_option linter.unusedSimpArgs false

def MRel (B : Nat) (G T : Ty) (kn : List (Int × Ty)) (nv tv : Value) (W1 : World) (sv zv ov iv : Value) (W : World) : Prop :=
  ∃ (s z : Value) (k : Nat) (ok : Bool) (kn' : List (Int × Ty)) (us' : List Value), s = sv ∧ z = zv ∧ k ≤ G.args.length ∧ ov = .bool ok ∧ iv = .int .i64 k ∧ Hid (KnAt B W kn' sv zv us') ∧
    Hid (standsL G.args T.args kn = (if ok = true then standsL (G.args.drop k) (T.args.drop k) kn' else (false, kn'))) ∧ Hid (kn'.length + partsL (G.args.drop k) ≤ kn.length + partsL G.args) ∧ Hid (Kept (FK nv tv) W1 W) ∧
    Hid ((∀ g, sv.ownBlock = some g → nv.ownBlock = some g ∨ W1.heap.size ≤ g) ∧ (∀ g, zv.ownBlock = some g → tv.ownBlock = some g ∨ W1.heap.size ≤ g))

set_option maxRecDepth 20000 in
set_option maxHeartbeats 4000000 in
theorem match_any (B : Nat) (G : Ty) : ∀ (T : Ty) (kn : List (Int × Ty)) (nv tv v u : Value) (us : List Value) (w : World), B ≤ w.heap.size → TyAt (· < B) w v G → TyAt (· < B) w u T → KnAt B w kn nv tv us →
    kn.length + G.parts ≤ 1000000000 → Calls Tryd.prog 54 #[nv, tv, v, u] w (MPost B G T kn nv tv w) := by
  induction G using Ty.ind with
  | h G ih =>
  intro T kn nv tv v u us w hB hG hT hK hp
  by_cases k1 : G.kind = 1
  · exact match_var B G T kn nv tv v u us w hB hG hT hK hp k1
  have IH := Lib.hid ih
  clear ih
  obtain ⟨P, hP⟩ : ∃ P, P = MPost B G T kn nv tv w := ⟨_, rfl⟩
  have HPO := Lib.hid hP
  rw [← hP]
  clear hP
  obtain ⟨A, c, rfl, hc, hm, hn⟩ := hG.form
  obtain ⟨A', c', rfl, hc', hm', hn'⟩ := hT.form
  have hla : G.args.length ≤ 9223372036854775807 := by simp only [maxLen] at hm; omega
  have hla' : T.args.length ≤ 9223372036854775807 := by simp only [maxLen] at hm'; omega
  obtain ⟨W1, hW1⟩ : ∃ W1, W1 = (w.alloc (.cells #[.int .i64 G.kind, .int .i64 G.num, .string G.name, .slice A G.args.length c] 24)).alloc (.cells #[.int .i64 T.kind, .int .i64 T.num, .string T.name, .slice A' T.args.length c'] 24) := ⟨_, rfl⟩
  have hb1 : Below w.heap.size w W1 := by rw [hW1]; exact ((Below.refl _ _).alloc (Nat.le_refl _) _).alloc (by simp) _
  have hz1 : W1.heap.size = w.heap.size + 2 := by rw [hW1]; simp
  have hbx : W1.heap[w.heap.size]? = some (.cells #[.int .i64 G.kind, .int .i64 G.num, .string G.name, .slice A G.args.length c] 24 (0, 0)) := by
    rw [hW1, Below.heap_alloc _ _ _ (by simp)]; exact heap_alloc_new _ _
  have hby : W1.heap[w.heap.size + 1]? = some (.cells #[.int .i64 T.kind, .int .i64 T.num, .string T.name, .slice A' T.args.length c'] 24 (0, 0)) := by
    rw [hW1]
    have := heap_alloc_new (w.alloc (.cells #[.int .i64 G.kind, .int .i64 G.num, .string G.name, .slice A G.args.length c] 24)) (.cells #[.int .i64 T.kind, .int .i64 T.num, .string T.name, .slice A' T.args.length c'] 24)
    simpa using this
  have hK1 := hK.below hB hb1
  have hT1 : TyAt (· < B) W1 (tyV T.kind T.num T.name A' T.args.length c') T := hT.keep fun g (hg : g < B) => ⟨hg, hb1.block g (by omega)⟩
  have hG1 : TyAt (· < B) W1 (tyV G.kind G.num G.name A G.args.length c) G := hG.keep fun g (hg : g < B) => ⟨hg, hb1.block g (by omega)⟩
  have hlow := fun g => hK.low (g := g)
  obtain ⟨y0, y1, y2, y3⟩ := box4 hbx
  obtain ⟨z0, z1, z2, z3⟩ := box4 hby
  rw [hW1] at y0 y1 y2 y3 z0 z1 z2 z3
  have HB := Lib.hid hB; have HB1 := Lib.hid hb1; have HZ1 := Lib.hid hz1; have HBX := Lib.hid hbx; have HBY := Lib.hid hby; have HK1 := Lib.hid hK1; have HT1 := Lib.hid hT1; have HG1 := Lib.hid hG1; have HLOW := Lib.hid hlow
  have HP := Lib.hid hp
  have hst := standsT_eq G T kn
  rw [if_neg k1] at hst
  have HST := Lib.hid hst
  have g1 : (G.kind == 1) = false := by simp [k1]
  have HKW : Hid (Kept (FK nv tv) w W1) := Lib.hid (Kept.of_below hb1)
  have hfail : ¬ (G.kind = T.kind ∧ G.name = T.name ∧ G.args.length = T.args.length) → MPost B G T kn nv tv w (.returned (.tuple #[nv, tv, .bool false])) W1 := fun h => by
    rw [if_neg h] at hst
    exact mpost hst hK1 (Kept.of_below hb1) (fun g e => .inl e) (fun g e => .inl e)
  have HFAIL := Lib.hid hfail
  clear hG hT hK hB hb1 hz1 hbx hby hK1 hT1 hG1 hlow hc hm hn hc' hm' hn' hp hst hfail
  unfold tyV
  by_cases e1 : G.kind = T.kind
  rotate_left
  · have HE := Lib.hid (HFAIL.out fun h => e1 h.1)
    have h1 : (G.kind != T.kind) = true := by simp [e1]
    clear e1 k1
    go_enter Tryd.func54, Tryd.ntmps54
    go_wp2
    go_ret3
    rw [HPO.out, ← hW1]
    exact HE.out
  by_cases e2 : G.name = T.name
  rotate_left
  · have HE := Lib.hid (HFAIL.out fun h => e2 h.2.1)
    have h1 : (G.kind != T.kind) = false := by simp [e1]
    have h3 : (G.name.toList == T.name.toList) = false := beqS_ne e2
    clear e1 e2 k1
    go_enter Tryd.func54, Tryd.ntmps54
    go_wp2
    go_ret3
    rw [HPO.out, ← hW1]
    exact HE.out
  by_cases e3 : G.args.length = T.args.length
  rotate_left
  · have HE := Lib.hid (HFAIL.out fun h => e3 h.2.2)
    have h1 : (G.kind != T.kind) = false := by simp [e1]
    have h3 : (G.name.toList == T.name.toList) = true := (beqS _ _).2 e2
    have h4 : ((G.args.length : Int) != (T.args.length : Int)) = true := by simp; omega
    clear e1 e2 e3 k1
    go_enter Tryd.func54, Tryd.ntmps54
    go_wp2
    go_ret3
    rw [HPO.out, ← hW1]
    exact HE.out
  have HSL : Hid (standsT G T kn = standsL G.args T.args kn) := Lib.hid (by have := HST.out; rw [if_pos ⟨e1, e2, e3⟩] at this; exact this)
  have h1 : (G.kind != T.kind) = false := by simp [e1]
  have h3 : (G.name.toList == T.name.toList) = true := (beqS _ _).2 e2
  have h4 : ((G.args.length : Int) != (T.args.length : Int)) = false := by simp [e3]
  have H3 := Lib.hid e3
  clear e1 e2 e3 k1
  go_enter Tryd.func54, Tryd.ntmps54
  go_wp2
  rw [← hW1]
  clear hW1 y0 y1 y2 y3 z0 z1 z2 z3 h1 h3 h4 g1
  go_loopw [0, 1, 12, 13] (fun sv zv ov iv W => MRel B G T kn nv tv W1 sv zv ov iv W) (fun _ _ _ iv _ => G.args.length - (RowKit.intOf iv).toNat)
  case atStart =>
    exact ⟨nv, tv, 0, true, kn, us, rfl, rfl, by omega, rfl, rfl, HK1, Lib.hid (by rw [if_pos rfl, List.drop_zero, List.drop_zero]), Lib.hid (by rw [List.drop_zero]; exact Nat.le_refl _), Lib.hid (Kept.refl _ _), Lib.hid ⟨fun g e => .inl e, fun g e => .inl e⟩⟩
  case round =>
    obtain ⟨sv, zv, k, ok, kn', us', rfl, rfl, hk, rfl, rfl, HK, HS, HL, HKR, HOW⟩ := hrel
    have hz1 := HZ1.out
    have hzr := HKR.out.size
    have hnf : ∀ g, FK nv tv g → g < w.heap.size := fun g hf => (HLOW.out g hf).2
    have hbr : wr.heap[w.heap.size]? = some (.cells #[.int .i64 G.kind, .int .i64 G.num, .string G.name, .slice A G.args.length c] 24 (0, 0)) := (HKR.out.block _ (by omega) (fun hf => by have := hnf _ hf; omega)).trans HBX.out
    have hby2 : wr.heap[w.heap.size + 1]? = some (.cells #[.int .i64 T.kind, .int .i64 T.num, .string T.name, .slice A' T.args.length c'] 24 (0, 0)) := (HKR.out.block _ (by omega) (fun hf => by have := hnf _ hf; omega)).trans HBY.out
    obtain ⟨y0, y1, y2, y3⟩ := box4 hbr
    by_cases hlt : k < G.args.length
    rotate_left
    · have HE : Hid (standsT G T kn = (ok, kn')) := Lib.hid (by
        rw [HSL.out, HS.out]
        cases ok with
        | true => rw [if_pos rfl, standsL_end (by omega)]
        | false => rw [if_neg (by decide)])
      have HKK : Hid (Kept (FK nv tv) w wr) := Lib.hid (HKW.out.trans' HKR.out)
      have HZ : Hid (w.heap.size ≤ W1.heap.size) := Lib.hid (by omega)
      clear hnf hbr hby2 hzr hz1
      go_wp2
      go_ret3
      rw [HPO.out]
      exact mpost HE.out HK.out HKK.out (fun g e => (HOW.out.1 g e).imp_right fun h => Nat.le_trans HZ.out h) (fun g e => (HOW.out.2 g e).imp_right fun h => Nat.le_trans HZ.out h)
    cases ok with
    | false =>
      have HE : Hid (standsT G T kn = (false, kn')) := Lib.hid (by rw [HSL.out, HS.out, if_neg (by decide)])
      have HKK : Hid (Kept (FK nv tv) w wr) := Lib.hid (HKW.out.trans' HKR.out)
      have HZ : Hid (w.heap.size ≤ W1.heap.size) := Lib.hid (by omega)
      clear hnf hbr hby2 hzr hz1
      go_wp2
      go_ret3
      rw [HPO.out]
      exact mpost HE.out HK.out HKK.out (fun g e => (HOW.out.1 g e).imp_right fun h => Nat.le_trans HZ.out h) (fun g e => (HOW.out.2 g e).imp_right fun h => Nat.le_trans HZ.out h)
    | true =>
      obtain ⟨z0, z1, z2, z3⟩ := box4 hby2
      have hlt' : k < T.args.length := by have := H3.out; omega
      have hBr : B ≤ wr.heap.size := by have := HB.out; omega
      have hlow' : ∀ g, FK nv tv g → B ≤ g := fun g hf => (HLOW.out g hf).1
      have hGr : TyAt (· < B) wr (tyV G.kind G.num G.name A G.args.length c) G := HG1.out.keep fun g (hg : g < B) => ⟨hg, HKR.out.block g (by have := HB.out; omega) (fun hf => by have := hlow' g hf; omega)⟩
      have hTr : TyAt (· < B) wr (tyV T.kind T.num T.name A' T.args.length c') T := HT1.out.keep fun g (hg : g < B) => ⟨hg, HKR.out.block g (by have := HB.out; omega) (fun hf => by have := hlow' g hf; omega)⟩
      obtain ⟨b, off, A2, c2, rfl, hb, ht, x0, x1, x2, x3⟩ := hGr.arg hlt
      obtain ⟨b', off', A3, c3, rfl, hb', ht', x0', x1', x2', x3'⟩ := hTr.arg hlt'
      have hps := partsL_step hlt
      have hbB : b < B := hb
      have hbB' : b' < B := hb'
      have hst := HS.out
      rw [if_pos rfl, standsL_step hlt hlt'] at hst
      have hsl := standsT_len G.args[k] T.args[k] kn'
      have hkd : ∀ W, Below wr.heap.size wr W → Kept (FK sv zv) wr W := fun W h => Kept.of_below h
      have hca := fun W (hW : Below wr.heap.size wr W) => IH.out k hlt T.args[k] kn' sv zv _ _ us' W (Nat.le_trans hBr hW.size) (ht.keep fun g (hg : g < B) => ⟨hg, hW.block g (by omega)⟩) (ht'.keep fun g (hg : g < B) => ⟨hg, hW.block g (by omega)⟩) (HK.out.below hBr hW) (by have := HL.out; have := HP.out; have := G.parts_eq; omega)
      have HLX : Hid ((standsT G.args[k] T.args[k] kn').2.length + partsL (G.args.drop (k + 1)) ≤ kn.length + partsL G.args) := Lib.hid (by have := HL.out; omega)
      have hlb := lt_blk hbr
      have hlb2 := lt_blk hby2
      have hbl : ∀ g, FK sv zv g → B ≤ g ∧ g ≠ w.heap.size ∧ g ≠ w.heap.size + 1 := fun g hf => by
        refine ⟨(HK.out.low hf).1, ?_⟩
        rcases hf with e | e
        · rcases HOW.out.1 g e with h | h
          · have := hnf g (.inl h); omega
          · omega
        · rcases HOW.out.2 g e with h | h
          · have := hnf g (.inr h); omega
          · omega
      generalize G.args[k] = X at *
      generalize T.args[k] = Y at *
      obtain ⟨q, hq⟩ : ∃ q, q = standsT X Y kn' := ⟨_, rfl⟩
      rw [← hq] at hst HLX
      have HQ := Lib.hid hq
      have HSX := Lib.hid hst
      have HSK : Hid (∀ W, Kept (FK sv zv) wr W → W.cell? ⟨w.heap.size, 3, none⟩ = some (.slice (some ⟨b, off, none⟩) G.args.length c) ∧ W.cell? ⟨w.heap.size + 1, 3, none⟩ = some (.slice (some ⟨b', off', none⟩) T.args.length c') ∧
          W.cell? ⟨b, off + k * 4, none⟩ = some (.int .i64 X.kind) ∧ W.cell? ⟨b, off + k * 4 + 1, none⟩ = some (.int .i64 X.num) ∧ W.cell? ⟨b, off + k * 4 + 2, none⟩ = some (.string X.name) ∧ W.cell? ⟨b, off + k * 4 + 3, none⟩ = some (.slice A2 X.args.length c2) ∧
          W.cell? ⟨b', off' + k * 4, none⟩ = some (.int .i64 Y.kind) ∧ W.cell? ⟨b', off' + k * 4 + 1, none⟩ = some (.int .i64 Y.num) ∧ W.cell? ⟨b', off' + k * 4 + 2, none⟩ = some (.string Y.name) ∧ W.cell? ⟨b', off' + k * 4 + 3, none⟩ = some (.slice A3 Y.args.length c3)) :=
        Lib.hid fun W h => by
          have f1 : ∀ o, W.cell? ⟨b, o, none⟩ = wr.cell? ⟨b, o, none⟩ := fun o => h.cell (p := ⟨b, o, none⟩) (Nat.lt_of_lt_of_le hbB hBr) (fun hf => Nat.lt_irrefl _ (Nat.lt_of_lt_of_le hbB (hbl b hf).1))
          have f2 : ∀ o, W.cell? ⟨b', o, none⟩ = wr.cell? ⟨b', o, none⟩ := fun o => h.cell (p := ⟨b', o, none⟩) (Nat.lt_of_lt_of_le hbB' hBr) (fun hf => Nat.lt_irrefl _ (Nat.lt_of_lt_of_le hbB' (hbl b' hf).1))
          exact ⟨(h.cell (p := ⟨_, _, none⟩) hlb (fun hf => (hbl _ hf).2.1 rfl)).trans y3, (h.cell (p := ⟨_, _, none⟩) hlb2 (fun hf => (hbl _ hf).2.2 rfl)).trans z3,
            (f1 _).trans x0, (f1 _).trans x1, (f1 _).trans x2, (f1 _).trans x3, (f2 _).trans x0', (f2 _).trans x1', (f2 _).trans x2', (f2 _).trans x3'⟩
      have HBW : Hid (Below wr.heap.size wr wr.drew) := Lib.hid (Below.refl _ _).drew
      have HKD := Lib.hid (hkd _ HBW.out)
      have hca2 : Calls Tryd.prog 54 #[sv, zv, .agg #[.int .i64 X.kind, .int .i64 X.num, .string X.name, .slice A2 X.args.length c2], .agg #[.int .i64 Y.kind, .int .i64 Y.num, .string Y.name, .slice A3 Y.args.length c3]] wr.drew fun e W' =>
          ∃ nv' tv' us2, e = .returned (.tuple #[nv', tv', .bool q.1]) ∧ KnAt B W' q.2 nv' tv' us2 ∧ Kept (FK sv zv) wr W' ∧ (∀ g, nv'.ownBlock = some g → sv.ownBlock = some g ∨ wr.heap.size ≤ g) ∧ (∀ g, tv'.ownBlock = some g → zv.ownBlock = some g ∨ wr.heap.size ≤ g) := by
        refine (hca _ HBW.out).mono ?_
        rintro e W' ⟨nv', tv', us2, h1, h2, h3, h4, h5⟩
        rw [← hq] at h1 h2
        exact ⟨nv', tv', us2, h1, h2, HKD.out.trans' h3, h4, h5⟩
      have HCA := Lib.hid hca2
      have HZR : Hid (W1.heap.size ≤ wr.heap.size) := Lib.hid hzr
      have HLW : Hid (∀ g, FK nv tv g → g < w.heap.size) := Lib.hid hnf
      clear hq hst hca hca2 hsl hps hkd hGr hTr ht ht' x0 x1 x2 x3 x0' x1' x2' x3' y0 y1 y2 z0 z1 z2 z3 hbr hby2 hlb hlb2 hlow' hz1 hzr hnf
      obtain ⟨r, kn2⟩ := q
      simp only at HCA HSX HLX
      go_wp2_with fail
      go_region_held (fun W : World => W.cell? ⟨w.heap.size, 3, none⟩ = some (.slice (some ⟨b, off, none⟩) G.args.length c) ∧ W.cell? ⟨w.heap.size + 1, 3, none⟩ = some (.slice (some ⟨b', off', none⟩) T.args.length c') ∧
          W.cell? ⟨b, off + k * 4, none⟩ = some (.int .i64 X.kind) ∧ W.cell? ⟨b, off + k * 4 + 1, none⟩ = some (.int .i64 X.num) ∧ W.cell? ⟨b, off + k * 4 + 2, none⟩ = some (.string X.name) ∧ W.cell? ⟨b, off + k * 4 + 3, none⟩ = some (.slice A2 X.args.length c2) ∧
          W.cell? ⟨b', off' + k * 4, none⟩ = some (.int .i64 Y.kind) ∧ W.cell? ⟨b', off' + k * 4 + 1, none⟩ = some (.int .i64 Y.num) ∧ W.cell? ⟨b', off' + k * 4 + 2, none⟩ = some (.string Y.name) ∧ W.cell? ⟨b', off' + k * 4 + 3, none⟩ = some (.slice A3 Y.args.length c3))
        (first | exact HSK.out _ HKD.out | exact HSK.out _ (by assumption)) ((go_at_call 54; refine HCA.out.mono ?_; rintro e w5 ⟨nv5, tv5, us5, rfl, hK5, hk5, ho5, hp5⟩))
      have HN : Hid (KnAt B w5 kn2 nv5 tv5 us5 ∧ Kept (FK nv tv) W1 w5 ∧ (∀ g, nv5.ownBlock = some g → nv.ownBlock = some g ∨ W1.heap.size ≤ g) ∧ (∀ g, tv5.ownBlock = some g → tv.ownBlock = some g ∨ W1.heap.size ≤ g)) := Lib.hid (by
        refine ⟨hK5, HKR.out.trans hk5 fun g hf => ?_, fun g e => ?_, fun g e => ?_⟩
        · rcases hf with e | e
          · exact (HOW.out.1 g e).imp_left .inl
          · exact (HOW.out.2 g e).imp_left .inr
        · rcases ho5 g e with h | h
          · exact HOW.out.1 g h
          · exact .inr (Nat.le_trans HZR.out h)
        · rcases hp5 g e with h | h
          · exact HOW.out.2 g h
          · exact .inr (Nat.le_trans HZR.out h))
      clear hK5 hk5 ho5 hp5
      go_wp2
      go_roundw
      case rel => exact ⟨nv5, tv5, k + 1, r, kn2, us5, rfl, rfl, by omega, rfl, by go_num, Lib.hid HN.out.1, HSX, HLX, Lib.hid HN.out.2.1, Lib.hid HN.out.2.2⟩
      case measure => simp [RowKit.intOf]; omega
set_option maxRecDepth 20000 in
set_option maxHeartbeats 1000000 in
/-- the document's Instance. -/
theorem rinst_any (G T : Ty) (v u : Value) (w : World) (hG : TyAt (· < w.heap.size) w v G) (hT : TyAt (· < w.heap.size) w u T) (hpG : G.parts ≤ 1000000 ∧ NmB 1000000000 G) (hpT : T.parts ≤ 1000000 ∧ NmB 1000000000 T) :
    Calls Tryd.prog 19 #[v, u] w fun e w' => e = .returned (.bool (instT G T)) ∧ Below w.heap.size w w' := by
  obtain ⟨A, c, rfl, -⟩ := hG.form
  obtain ⟨A', c', rfl, -⟩ := hT.form
  obtain ⟨W1, hW1⟩ : ∃ W1, W1 = (w.alloc (.cells #[.int .i64 G.kind, .int .i64 G.num, .string G.name, .slice A G.args.length c] 24)).alloc (.cells #[.int .i64 T.kind, .int .i64 T.num, .string T.name, .slice A' T.args.length c'] 24) := ⟨_, rfl⟩
  have hx : BX w w.heap.size G A c W1 := by rw [hW1]; exact (BX.new (Below.refl _ _) hG).t ((Below.refl _ _).alloc (Nat.le_refl _) _)
  have hy : BX w (w.heap.size + 1) T A' c' W1 := by
    have h0 : Below w.heap.size w (w.alloc (.cells #[.int .i64 G.kind, .int .i64 G.num, .string G.name, .slice A G.args.length c] 24)) := (Below.refl _ _).alloc (Nat.le_refl _) _
    have := BX.new h0 (hT.blw h0)
    rw [hW1]
    simpa using this
  have hri := r12Right_any G _ W1 hx.ty (by omega) hpG.2
  have HX := Lib.hid hx; have HY := Lib.hid hy
  have HPG := Lib.hid hpG; have HPT := Lib.hid hpT
  obtain ⟨y0, y1, y2, y3⟩ := box4 hx.box
  rw [hW1] at y0 y1 y2 y3
  obtain ⟨z0, z1, z2, z3⟩ := box4 hy.box
  rw [hW1] at z0 z1 z2 z3
  unfold tyV at hri ⊢
  have HRI := Lib.hid hri
  clear hG hT hx hy hri hpG hpT
  go_enter Tryd.func19, Tryd.ntmps19
  go_wp2_with fail
  rw [← hW1]
  clear hW1 y0 y1 y2 y3 z0 z1 z2 z3
  refine HRI.out.mono ?_
  rintro e w2 ⟨rfl, hb2⟩
  have hy2 := HY.out.t hb2
  have hx2 := HX.out.t hb2
  have HX2 := Lib.hid hx2; have HY2 := Lib.hid hy2
  have HB2 := Lib.hid hx2.below
  obtain ⟨z0, z1, z2, z3⟩ := box4 hy2.box
  cases hg : rightT G with
  | false =>
    have HI : Hid (instT G T = false) := Lib.hid (by unfold instT; rw [hg]; rfl)
    clear hg hb2 hx2 hy2
    go_wp2
    go_ret
    exact ⟨by rw [HI.out]; rfl, HB2.out⟩
  | true =>
    have HRG : Hid (rightT G = true) := Lib.hid hg
    have HR2 := Lib.hid (r12Right_any T _ w2 hy2.ty (by have := HPT.out.1; omega) HPT.out.2)
    clear hg hb2 hx2 hy2
    unfold tyV at HR2
    go_wp2_with fail
    refine HR2.out.mono ?_
    rintro e w3 ⟨rfl, hb3⟩
    have hx3 := HX2.out.t hb3
    have hy3 := HY2.out.t hb3
    have HB3 := Lib.hid hx3.below
    cases hg : rightT T with
    | false =>
      have HI : Hid (instT G T = false) := Lib.hid (by unfold instT; rw [hg, Bool.false_and, Bool.and_false])
      clear hg hb3 hx3 hy3 z0 z1 z2 z3
      go_wp2
      go_ret
      exact ⟨by rw [HI.out]; rfl, HB3.out⟩
    | true =>
      have HI : Hid (instT G T = (standsT G T []).1) := Lib.hid (by unfold instT; rw [hg, HRG.out]; rfl)
      obtain ⟨W4, hW4⟩ : ∃ W4, W4 = (w3.alloc (.cells #[] 3)).alloc (.cells #[] 24) := ⟨_, rfl⟩
      have hb4 : Below w3.heap.size w3 W4 := by rw [hW4]; exact ((Below.refl _ _).alloc (Nat.le_refl _) _).alloc (by simp) _
      have hK : KnAt w3.heap.size W4 [] (.slice (some ⟨w3.heap.size, 0, none⟩) 0 0) (.slice (some ⟨w3.heap.size + 1, 0, none⟩) 0 0) [] := by
        refine KnAt.nil _ _ _ _ ?_ ?_ (fun g e e' => ?_)
        · rw [hW4]; exact World.ownsRow.alloc (World.ownsRow_made w3 #[] 0 (Nat.le_refl _) (by simp) (by simp)) _
        · have := World.ownsRow_made (e := 24) (size := 4) (base := w3.heap.size) (w3.alloc (.cells #[] 3)) #[] 0 (by simp) (by simp) (by simp)
          rw [hW4]; simpa using this
        · have e2 : w3.heap.size = g := Option.some.inj e
          have e3 : w3.heap.size + 1 = g := Option.some.inj e'
          omega
      have hca := match_any w3.heap.size G T [] _ _ _ _ [] W4 hb4.size (hx3.ty.keep fun g hg => ⟨hg, hb4.block g hg⟩) (hy3.ty.keep fun g hg => ⟨hg, hb4.block g hg⟩) hK (by have := HPG.out.1; simp; omega)
      obtain ⟨y0, y1, y2, y3⟩ := box4 ((hb4.block _ (lt_blk hx3.box)).trans hx3.box)
      obtain ⟨x0, x1, x2, x3⟩ := box4 ((hb4.block _ (lt_blk hy3.box)).trans hy3.box)
      rw [hW4] at y0 y1 y2 y3 x0 x1 x2 x3
      have HB4 : Hid (Below w.heap.size w W4) := Lib.hid (HB3.out.trans (hb4.mono HB3.out.size))
      have HZ4 : Hid (w.heap.size ≤ w3.heap.size ∧ w3.heap.size ≤ W4.heap.size) := Lib.hid ⟨HB3.out.size, hb4.size⟩
      unfold tyV at hca
      have HCA := Lib.hid hca
      clear hg hb3 hx3 hy3 hb4 hK hca z0 z1 z2 z3
      go_wp2_with fail
      rw [← hW4]
      clear hW4 y0 y1 y2 y3 x0 x1 x2 x3
      refine HCA.out.mono ?_
      rintro e w5 ⟨nv, tv, us, rfl, -, hk, -, -⟩
      have HB5 : Hid (Below w.heap.size w w5) := Lib.hid (HB4.out.trans (hk.below (by have := HZ4.out; omega) (fun g hf => by
        have := HZ4.out
        rcases hf with e | e
        · have e2 : w3.heap.size = g := Option.some.inj e
          omega
        · have e2 : w3.heap.size + 1 = g := Option.some.inj e
          omega)))
      rw [← HI.out]
      clear hk
      go_wp2
      go_ret
      exact ⟨rfl, HB5.out⟩
end Go.Proofs.YtbhicpjhijondaaDoor
