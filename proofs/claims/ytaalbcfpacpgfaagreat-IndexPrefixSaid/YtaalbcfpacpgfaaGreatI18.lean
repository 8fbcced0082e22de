/- Index: Sync; an index with a row beside it; plain: what is left behind a crash. -/
import Derived.Test.YtaalbcfpacpgfaaGreatI20
namespace Go.Proofs.YtaalbcfpacpgfaaGreat
open Go.RowKit Go.Lib Go.Vfs Go.Par Go.Typ Go.Shelf Go.Ix
set_option linter.unusedVariables false
set_option linter.unusedSimpArgs false

set_option maxRecDepth 20000 in
theorem ixsync_any (w : World) (px p gen : Nat) (st : St) (base log : List (List UInt8)) (es : List En) (F H S : Nat → Prop) (h : XF w px p st gen base log es F H S) (hfl : st.files.length ≤ 100000) (hnl : ∀ f ∈ st.files, f.name.length ≤ 100000) (hpw : st.power ≤ 9223372036854775807) :
    Calls Tryz.prog 24 #[.pointer (some ⟨px, 0, none⟩)] w fun e w' => e = .returned (.int .i64 (jSync st).2) ∧ XPost w px p F H S (jSync st).1 gen base log es w' := by
  have HXF := Lib.hid h
  obtain ⟨pj, mb, xs, G, hj, hi, he, hH, hS, hn⟩ := h
  subst he
  have p0 : w.cell? ⟨px, 0, none⟩ = some (.pointer (some ⟨pj, 0, none⟩)) := by simp [World.cell?, hi.head]
  have HJ := Lib.hid (jsync_any hj hfl hnl hpw)
  have HP : Hid (∀ w3, JPost w pj p F G (jSync st).1 gen base log w3 → XPost w px p F H S (jSync st).1 gen base log (xs.map (·.e)) w3) := Lib.hid fun w3 hp =>
    (XPost.journal (Below.refl _ _) hi hH hS hn hi.lt hp).1
  clear hj hi hH hS hn hfl hnl
  go_enter Tryz.func24, Tryz.ntmps24
  go_wp2_with fail
  refine HJ.out.mono ?_
  rintro e w2 ⟨rfl, hp⟩
  have HXP := Lib.hid (HP.out _ hp)
  clear hp
  go_wp2
  go_ret
  exact ⟨rfl, HXP.out⟩
/-- Sync where the power lasts. -/
theorem XI.sync {W wr : World} {px p g s c d m : Nat} {base log : List (List UInt8)} {es : List En} {F H S : Nat → Prop} {fs : List File} {lg : Option File} (h : XI W wr px p g base log es s c d m F H S fs lg) (hc : c ≤ 900) :
    Calls Tryz.prog 24 #[.pointer (some ⟨px, 0, none⟩)] wr fun e w' => e = .returned (.int .i64 0) ∧ Hid (∃ F' H' S' fs' lg', XI W w' px p g base log es (encR g log).length (c + 1) d m F' H' S' fs' lg' ∧ Kept (fun k => F k ∨ H k) wr w' ∧ Grows wr F F' ∧ Grows wr H H' ∧ Grows wr S S') := by
  refine (ixsync_any wr px p g ⟨-1, fs⟩ base log es F H S h.xh.xf (by have := h.calm.files; simp only; omega) h.calm.short (show (-1 : Int) ≤ 9223372036854775807 by decide)).mono ?_
  rintro e w' ⟨rfl, hp⟩
  rcases h.lok with ⟨hl1, hl2⟩ | hl1
  · have hv := h.v3
    rw [hl1] at hv
    have e1 : jSync ⟨-1, fs⟩ = (⟨-1, fs⟩, 0) := V3.sync0 hv
    rw [e1] at hp ⊢
    obtain ⟨F', H', S', hx', hk, hgr⟩ := h.xh.op (Nat.le_refl _) hp
    refine ⟨rfl, Lib.hid ⟨F', H', S', fs, lg, ⟨hx', h.v3, ?_, fun _ => by rw [hl2]; rfl, h.calm.mono (by omega) (Nat.le_refl _), h.xk, by have := h.logc; omega, by have := h.esc; omega, h.sum, h.each⟩, hk, hgr⟩⟩
    rw [hl1, hl2]; exact .inl ⟨rfl, rfl⟩
  · obtain ⟨fs', e1, h6⟩ := h.v3.sync (pw := -1) hl1
    rw [do_on (by decide), dec_neg] at e1
    have hcl : Calm fs' (c + 1) d := by
      have e2 : fs' = (jSync ⟨-1, fs⟩).1.files := by rw [e1]
      rw [e2]
      unfold jSync
      split
      · exact (show Calm (stSync ⟨-1, fs⟩ nLog).1.files (c + 1) d by
          unfold stSync
          split
          · exact h.calm.mono (by omega) (Nat.le_refl _)
          · rename_i f hf
            obtain ⟨f1, f2, f3⟩ := find_in hf
            exact (h.calm.mono (by omega) (Nat.le_refl _)).do (h.calm.withL (h.calm.names f f1) (h.calm.data f f1) (Nat.le_refl _)))
      · exact h.calm.mono (by omega) (Nat.le_refl _)
    rw [e1] at hp ⊢
    obtain ⟨F', H', S', hx', hk, hgr⟩ := h.xh.op (Nat.le_refl _) hp
    exact ⟨rfl, Lib.hid ⟨F', H', S', fs', _, ⟨hx', h6, .inr rfl, fun e => (by cases e), hcl, h.xk, by have := h.logc; omega, by have := h.esc; omega, h.sum, h.each⟩, hk, hgr⟩⟩
/-- what is left of an index's files behind a crash. -/
theorem prefixX {W wr : World} {px p g c d m : Nat} {base la lb : List (List UInt8)} {es : List En} {F H S : Nat → Prop} {fs : List File} {lg : Option File} (h : XI W wr px p g base (la ++ lb) es (encR g la).length c d m F H S fs lg) (hg : g < 4294967296) (ks : List Int) :
    ∃ m' lg', la.length ≤ m' ∧ m' ≤ (la ++ lb).length ∧ V3 (crashL ks 0 fs) none (bsOf g base) lg' ∧ logRecs lg' g = (la ++ lb).take m' ∧ ∀ j, lg'.map (crashF [] j) = lg' := by
  obtain ⟨i, j, k, hc⟩ := h.v3.crash ks
  simp only [Option.map_none] at hc
  rw [bsOf_crash] at hc
  have hp : ∀ q ∈ la ++ lb, q.length ≤ 65536 := fun q hq => h.xk.len q (List.mem_append_right _ hq)
  rcases h.lok with ⟨hl1, hl2⟩ | hl1
  · rw [hl1] at hc
    have h1 := List.append_eq_nil_iff.1 hl2
    exact ⟨0, none, by rw [h1.1]; simp, by omega, hc, by simp [logRecs, hl2], fun j => rfl⟩
  · rw [hl1, Option.map_some] at hc
    obtain ⟨n, h1, h2, h3⟩ := crash_cut ks k nLog (encR g (la ++ lb)) (encR g la).length (by rw [encR_append, List.length_append]; omega)
    rw [h3] at hc
    obtain ⟨m', h4, h5, h6⟩ := front_recs hg hp (a := la.length) (by simp) (n := n) (by simpa using h1) h2
    refine ⟨m', _, h4, h5, hc, h6 _, fun j => ?_⟩
    rw [Option.map_some, crash_nil, List.take_length]
/-- a row of entries whose exports lie below Z. -/
def EntZ (Z : Nat) (S : Nat → Prop) (w : World) (v : Value) (x : En) : Prop := EntAt (fun g => S g ∧ g < Z) w v x
theorem EntZ.keep {Z : Nat} {S S' : Nat → Prop} {w w' : World} {v : Value} {x : En} (h : EntZ Z S w v x) (hk : ∀ b, S b → S' b ∧ w'.heap[b]? = w.heap[b]?) : EntZ Z S' w' v x :=
  EntAt.keep h fun b hb => ⟨⟨(hk b hb.1).1, hb.2⟩, (hk b hb.1).2⟩
theorem RowK.kept {Z B : Nat} {w w' : World} {xs : List En} {v : Value} {us : List Value} {P : Nat → Prop} (h : RowK 55 3 (EntZ Z) 0 B w xs v us) (hk : Kept P w w') (hP : ∀ g, P g → Z ≤ g) (hv : ∀ g, v.ownBlock = some g → ¬ P g) : RowK 55 3 (EntZ Z) 0 B w' xs v us :=
  ⟨h.len, ownsRow_block h.own fun g e => hk.block g (h.own.lt g e).2 (hv g e), h.size, fun i hi => EntAt.keep (h.each i hi) fun b hb => ⟨⟨⟨hb.1.1, by have := hk.size; omega, hb.1.2.2⟩, hb.2⟩, hk.block b hb.1.2.1 (fun hp => by have := hP b hp; omega)⟩⟩
theorem RowK.entsZ {Z B : Nat} {w : World} {xs : List En} {v : Value} {us : List Value} (h : RowK 55 3 (EntZ Z) 0 B w xs v us) : EntsAt (· < w.heap.size) w v xs := by
  have h2 : RowK 55 3 EntAt 0 B w xs v us := ⟨h.len, h.own, h.size, fun i hi => EntAt.keep (h.each i hi) fun b hb => ⟨hb.1, rfl⟩⟩
  exact h2.ents.keep fun g hg => ⟨hg.2, rfl⟩
theorem rowZ_app {Z B : Nat} {w w3 : World} {xs : List En} {v v' : Value} {us : List Value} (h : RowK 55 3 (EntZ Z) 0 B w xs v us) {x : En} {A : Option Addr} {c : Nat} (hx : EntAt (· < Z) w (enV x A c) x) (hZ : Z ≤ B) (hzw : B ≤ w.heap.size) {o : Obj}
    (hown : w3.ownsRow B 55 3 v' (xs.length + 1) (us.flatMap flatC ++ flatC (enV x A c))) (hg : (w.alloc o).grownBy w3 v.ownBlock) (hat : v'.ownBlock = v.ownBlock ∨ v'.ownBlock = some (w.alloc o).heap.size) :
    RowK 55 3 (EntZ Z) 0 B w3 (xs ++ [x]) v' (us ++ [enV x A c]) :=
  RowK.next (R := EntZ Z) EntZ.keep h (S := (· < Z)) (EntAt.keep hx fun g hg => ⟨⟨hg, hg⟩, rfl⟩) (fun g (hg : g < Z) => ⟨Nat.zero_le _, by omega, fun e => by have := h.lt g e; omega⟩) rfl o hown hg hat
/-- a front of a row of entries. -/
theorem EntsAt.front {S : Nat → Prop} {w : World} {A : Option Addr} {n c : Nat} {ls : List En} (h : EntsAt S w (.slice A n c) ls) {m : Nat} (hm : m ≤ ls.length) : m ≤ c ∧ EntsAt S w (.slice A m c) (ls.take m) := by
  obtain ⟨A', c', e, h1, h2, vs, h3, h4⟩ := h
  cases e
  have hl : (ls.take m).length = m := by rw [List.length_take]; omega
  refine ⟨by omega, A, c, by rw [hl], by omega, h2, vs, fun h0 => ?_, fun i hi => ?_⟩
  · obtain ⟨b, off, e, hb, hat⟩ := h3 (by omega)
    exact ⟨b, off, e, hb, fun i hi j hj => hat i (by omega) j hj⟩
  · rw [List.getElem_take]; exact h4 i (by omega)
theorem slice_frontE (A : Option Addr) (n c N : Nat) (w : World) (h : N ≤ c) : (Instr.slice 45 (.slice A n c) none (some (.int .i64 (N : Int))) none).run Tryz.prog w = .ok (.slice A N c) w := by
  have ht' : Tryz.prog.underlying 45 = some (.slice (Tryz.prog.elem 45)) := by simp [Program.elem, Tryz.underlying45]
  have he : Tryz.prog.elem 45 = 55 := by simp [Program.elem, Tryz.underlying45]
  rw [run_slice_h w 45 _ _ _ ht' .i64 _ (by omega) (by omega), he, Tryz.sizeOf55]
  simp only [Result.andThen, sliced]
  cases A <;> simp [Addr.add]

/-- an index, and a row of the law's beside it. -/
def PX (W wr : World) (px p g : Nat) (base log : List (List UInt8)) (es : List En) (s c d m : Nat) (xs : List En) (v : Value) (us : List Value) : Prop :=
  ∃ F H S fs lg, XI W wr px p g base log es s c d m F H S fs lg ∧ RowK 55 3 (EntZ W.heap.size) 0 W.heap.size wr xs v us ∧ ∀ k, v.ownBlock = some k → ¬ F k ∧ ¬ H k ∧ ¬ S k
section
variable {W wr w' w2 : World} {px p g s c d m : Nat} {base log : List (List UInt8)} {es xs : List En} {v : Value} {us : List Value}
theorem PX.below (h : PX W wr px p g base log es s c d m xs v us) : Below W.heap.size W wr := by
  obtain ⟨F, H, S, fs, lg, hx, hr, hv⟩ := h; exact hx.xh.below
theorem PX.go (h : PX W wr px p g base log es s c d m xs v us) (hb : Below wr.heap.size wr w') : PX W w' px p g base log es s c d m xs v us := by
  obtain ⟨F, H, S, fs, lg, hx, hr, hv⟩ := h
  exact ⟨F, H, S, fs, lg, hx.go hb, RowK.below (R := EntZ W.heap.size) EntZ.keep hr hb, hv⟩
theorem PX.mono (h : PX W wr px p g base log es s c d m xs v us) {c' d' m' : Nat} (h1 : c ≤ c') (h2 : d ≤ d') (h3 : m ≤ m') : PX W wr px p g base log es s c' d' m' xs v us := by
  obtain ⟨F, H, S, fs, lg, hx, hr, hv⟩ := h
  exact ⟨F, H, S, fs, lg, hx.mono h1 h2 h3, hr, hv⟩
theorem PX.step {px' g' s' c' d' m' : Nat} {base' log' : List (List UInt8)} {es' : List En} {F H S F' H' S' : Nat → Prop} {fs fs' : List File} {lg lg' : Option File} (hx : XI W wr px p g base log es s c d m F H S fs lg) (hr : RowK 55 3 (EntZ W.heap.size) 0 W.heap.size wr xs v us) (hv : ∀ k, v.ownBlock = some k → ¬ F k ∧ ¬ H k ∧ ¬ S k)
    (hx' : XI W w' px' p g' base' log' es' s' c' d' m' F' H' S' fs' lg') (hk : Kept (fun k => F k ∨ H k) wr w') (g1 : Grows wr F F') (g2 : Grows wr H H') (g3 : Grows wr S S') : PX W w' px' p g' base' log' es' s' c' d' m' xs v us := by
  refine ⟨F', H', S', fs', lg', hx', RowK.kept hr hk (fun k hk => hx.xh.new k hk) (fun k e hk => ?_), fun k e => ?_⟩
  · rcases hk with h | h
    · exact (hv k e).1 h
    · exact (hv k e).2.1 h
  · have hlt := (hr.lt k e).2
    obtain ⟨v1, v2, v3⟩ := hv k e
    refine ⟨fun h => ?_, fun h => ?_, fun h => ?_⟩
    · rcases g1 k h with h | h
      · exact v1 h
      · omega
    · rcases g2 k h with h | h
      · exact v2 h
      · omega
    · rcases g3 k h with h | h
      · exact v3 h
      · omega
theorem PX.publish (h : PX W wr px p g base log es s c d m xs v us) (hb : Below wr.heap.size wr w2) (u : Value) (E : En) (hx : EntAt (fun k => wr.heap.size ≤ k ∧ k < w2.heap.size) w2 u E) (hc : c ≤ 900) (hd : d ≤ 2000000) :
    Calls Tryz.prog 21 #[.pointer (some ⟨px, 0, none⟩), u] w2 fun e w' => ∃ k : Int, e = .returned (.int .i64 k) ∧ (k = 0 ↔ accB E = true) ∧ Hid (PX W w' px p g base (pubL log E) (pubE es E) s (c + 1) (d + 12 + lenA E) (m + lenA E) xs v us) := by
  obtain ⟨F, H, S, fs, lg, hx0, hr, hv⟩ := h
  refine (hx0.publish hb u E hx hc hd).mono ?_
  rintro e w' ⟨k, rfl, hk, HN⟩
  obtain ⟨F', H', S', fs', lg', hx', hk', g1, g2, g3⟩ := HN.out
  exact ⟨k, rfl, hk, Lib.hid (PX.step (hx0.go hb) (RowK.below (R := EntZ W.heap.size) EntZ.keep hr hb) hv hx' hk' g1 g2 g3)⟩
theorem PX.sync (h : PX W wr px p g base log es s c d m xs v us) (hc : c ≤ 900) :
    Calls Tryz.prog 24 #[.pointer (some ⟨px, 0, none⟩)] wr fun e w' => e = .returned (.int .i64 0) ∧ Hid (PX W w' px p g base log es (encR g log).length (c + 1) d m xs v us) := by
  obtain ⟨F, H, S, fs, lg, hx0, hr, hv⟩ := h
  refine (hx0.sync hc).mono ?_
  rintro e w' ⟨rfl, HN⟩
  obtain ⟨F', H', S', fs', lg', hx', hk', g1, g2, g3⟩ := HN.out
  exact ⟨rfl, Lib.hid (PX.step hx0 hr hv hx' hk' g1 g2 g3)⟩
theorem PX.compact (h : PX W wr px p g base log es s c d m xs v us) (hg : g ≤ 1000) (hc : c ≤ 900) (hd : d ≤ 2000000) (hm : m ≤ 800000) :
    Calls Tryz.prog 23 #[.pointer (some ⟨px, 0, none⟩)] wr fun e w' => e = .returned (.int .i64 0) ∧ Hid (PX W w' px p (g + 1) (es.map recE) [] es 0 (c + 4) (d + 4 * (m + 12 * c + 100)) m xs v us) := by
  obtain ⟨F, H, S, fs, lg, hx0, hr, hv⟩ := h
  refine (hx0.compact hg hc hd hm).mono ?_
  rintro e w' ⟨rfl, HN⟩
  obtain ⟨F', H', S', fs', lg', hx', hk', g1, g2, g3⟩ := HN.out
  exact ⟨rfl, Lib.hid (PX.step hx0 hr hv hx' hk' g1 g2 g3)⟩
/-- the row has an entry more. -/
theorem PX.app (h : PX W wr px p g base log es s c d m xs v us) {w3 : World} {v' : Value} {x : En} {A : Option Addr} {n : Nat} (hx : EntAt (· < W.heap.size) wr (enV x A n) x) {o : Obj}
    (hown : w3.ownsRow W.heap.size 55 3 v' (xs.length + 1) (us.flatMap flatC ++ flatC (enV x A n))) (hg : (wr.alloc o).grownBy w3 v.ownBlock) (hat : v'.ownBlock = v.ownBlock ∨ v'.ownBlock = some (wr.alloc o).heap.size) :
    PX W w3 px p g base log es s c d m (xs ++ [x]) v' (us ++ [enV x A n]) := by
  obtain ⟨F, H, S, fs, lg, hx0, hr, hv⟩ := h
  have hgr : Gr wr w3 v v' := Gr.app hg hat
  have hz := hx0.xh.below.size
  have hlt := hx0.xh.xf.lt
  refine ⟨F, H, S, fs, lg, ⟨⟨hx0.xh.xf.block (fun k hk => hgr.block (hlt k hk) (fun e => ?_)) hgr.1.size, hx0.xh.new, hx0.xh.below.trans (hgr.below hz fun k e => (hr.lt k e).1)⟩, hx0.v3, hx0.lok, hx0.lg0, hx0.calm, hx0.xk, hx0.logc, hx0.esc, hx0.sum, hx0.each⟩, rowZ_app hr hx (Nat.le_refl _) hz hown hg hat, fun k e => ?_⟩
  · obtain ⟨v1, v2, v3⟩ := hv k e
    rcases hk with h | h | h
    · exact v1 h
    · exact v2 h
    · exact v3 h
  · rcases hat with h | h
    · rw [h] at e; exact hv k e
    · rw [h] at e
      injection e with e
      have : wr.heap.size < k := by rw [← e]; simp
      exact ⟨fun h => by have := hlt k (.inl h); omega, fun h => by have := hlt k (.inr (.inl h)); omega, fun h => by have := hlt k (.inr (.inr h)); omega⟩
end
end Go.Proofs.YtaalbcfpacpgfaaGreat

