/- all. -/
import Derived.Test.YtffblcefnckacaaDoorLaw
namespace Go.Frm
open Go.Lib
theorem feeds_snoc : ∀ (ls : List (List UInt8)) (d : Dc) (b : List UInt8), feeds d (ls ++ [b]) = ((feeds d ls).1 ++ (feed (feeds d ls).2 b).1, (feed (feeds d ls).2 b).2)
  | [], d, b => by simp [feeds]
  | x :: ls, d, b => by
    rw [List.cons_append]
    show ((feed d x).1 ++ (feeds (feed d x).2 (ls ++ [b])).1, (feeds (feed d x).2 (ls ++ [b])).2) = _
    rw [feeds_snoc ls (feed d x).2 b]
    simp [feeds]
theorem run_count : ∀ (m : Nat) (b : List UInt8), b.length ≤ m → (run b).1.length ≤ b.length
  | 0, b, h => by
    have : b = [] := List.eq_nil_of_length_eq_zero (by omega)
    subst this
    exact Nat.le_refl _
  | m + 1, b, h => by
    cases hm : msg b with
    | more => rw [run_more hm]; exact Nat.zero_le _
    | bad e => rw [run_bad hm]; exact Nat.zero_le _
    | body n l =>
      obtain ⟨-, h3, -, h4, -⟩ := msg_body hm
      rw [run_body hm]
      have := run_count m (b.drop (n + l)) (by rw [List.length_drop]; omega)
      rw [List.length_drop] at this
      simp only [List.length_cons]
      omega
theorem feeds_run (bs : List (List UInt8)) : feeds ⟨[], 0⟩ bs = ((run bs.flatten).1, ⟨(run bs.flatten).2.1, (run bs.flatten).2.2⟩) := by
  have := feeds_one bs ⟨[], 0⟩ rfl rfl
  simpa using this
theorem feeds_append : ∀ (xs ys : List (List UInt8)) (d : Dc), feeds d (xs ++ ys) = ((feeds d xs).1 ++ (feeds (feeds d xs).2 ys).1, (feeds (feeds d xs).2 ys).2)
  | [], ys, d => by simp [feeds]
  | x :: xs, ys, d => by
    rw [List.cons_append]
    show ((feed d x).1 ++ (feeds (feed d x).2 (xs ++ ys)).1, (feeds (feed d x).2 (xs ++ ys)).2) = _
    rw [feeds_append xs ys (feed d x).2]
    simp [feeds]
theorem feeds_take (bs : List (List UInt8)) (d : Dc) (k : Nat) : (feeds d (bs.take k)).1.length ≤ (feeds d bs).1.length := by
  conv => rhs; rw [← List.take_append_drop k bs]
  rw [feeds_append, List.length_append]
  omega
end Go.Frm
namespace Go.Proofs.YtffblcefnckacaaDoor
open Go.RowKit Go.Lib Go.Vfs Go.Par Go.Frm Go.Shelf
set_option linter.unusedVariables false
set_option linter.unusedSimpArgs false

theorem RX.one {B : Nat} {w : World} {ls : List (List UInt8)} {v : Value} {us : List Value} (h : RX B w ls v us) : ∀ x ∈ us, x.oneCell' = true := by
  intro x hx
  obtain ⟨i, hi, rfl⟩ := List.mem_iff_getElem.1 hx
  have := h.each i (by rw [← h.len]; exact hi)
  rw [List.getD_eq_getElem?_getD, List.getElem?_eq_getElem hi] at this
  obtain ⟨A, c, e⟩ := this.form
  rw [Option.getD_some] at e
  rw [e]; rfl
theorem RX.join {B : Nat} {wa wf w3 : World} {l1 l2 : List (List UInt8)} {v1 v2 v' : Value} {us1 us2 : List Value} (h1 : RX B wa l1 v1 us1) (h2 : RX wa.heap.size wf l2 v2 us2) (hB : B ≤ wa.heap.size) (hk : ∀ g, InX v1 us1 g → wf.heap[g]? = wa.heap[g]?) (hsz : wa.heap.size ≤ wf.heap.size)
    (hown : Par.Own w3 B 22 v' (us1 ++ us2)) (hg : wf.grownBy w3 v1.ownBlock) (hat : v'.ownBlock = v1.ownBlock ∨ v'.ownBlock = some wf.heap.size) : RX B w3 (l1 ++ l2) v' (us1 ++ us2) := by
  have lt1 := h1.lt
  have lt2 := h2.lt
  have n1 := h1.len
  have n2 := h2.len
  have hv1 : ∀ g, v1.ownBlock = some g → g < wa.heap.size := fun g e => (h1.own.lt g e).2
  have a1 : ∀ i, i < l1.length → (us1 ++ us2).getD i (.bool false) = us1.getD i (.bool false) ∧ (l1 ++ l2).getD i [] = l1.getD i [] := fun i hi => by
    refine ⟨?_, ?_⟩
    · rw [List.getD_eq_getElem?_getD, List.getElem?_append_left (by omega), ← List.getD_eq_getElem?_getD]
    · rw [List.getD_eq_getElem?_getD, List.getElem?_append_left hi, ← List.getD_eq_getElem?_getD]
  have a2 : ∀ i, l1.length ≤ i → (us1 ++ us2).getD i (.bool false) = us2.getD (i - l1.length) (.bool false) ∧ (l1 ++ l2).getD i [] = l2.getD (i - l1.length) [] := fun i hi => by
    refine ⟨?_, ?_⟩
    · rw [List.getD_eq_getElem?_getD, List.getElem?_append_right (by omega), ← List.getD_eq_getElem?_getD, n1]
    · rw [List.getD_eq_getElem?_getD, List.getElem?_append_right hi, ← List.getD_eq_getElem?_getD]
  have b1 : ∀ i, i < l1.length → ∀ g, (us1.getD i (.bool false)).ownBlock = some g → B ≤ g ∧ g < wa.heap.size := fun i hi g e => lt1 g (.inr ⟨i, by omega, e⟩)
  have b2 : ∀ i, i < l2.length → ∀ g, (us2.getD i (.bool false)).ownBlock = some g → wa.heap.size ≤ g ∧ g < wf.heap.size := fun i hi g e => lt2 g (.inr ⟨i, by omega, e⟩)
  refine ⟨by simp [n1, n2], hown, fun i hi => ?_, fun i j hij hj g e => ?_, fun i hi g e => ?_⟩
  · rw [List.length_append] at hi
    by_cases hik : i < l1.length
    · rw [(a1 i hik).1, (a1 i hik).2]
      refine own_turn (h1.each i hik) fun g e => ?_
      have := b1 i hik g e
      rw [hg.block g (by omega) (fun e2 => h1.vsep i hik g e e2.symm), hk g (.inr ⟨i, by omega, e⟩)]
    · rw [(a2 i (by omega)).1, (a2 i (by omega)).2]
      refine own_turn ((h2.each (i - l1.length) (by omega)).base hB) fun g e => ?_
      have := b2 (i - l1.length) (by omega) g e
      rw [hg.block g this.2 (fun e2 => by have := hv1 g e2.symm; omega)]
  · rw [List.length_append] at hj
    by_cases hjk : j < l1.length
    · rw [(a1 i (by omega)).1] at e
      rw [(a1 j hjk).1]
      exact h1.sep i j hij hjk g e
    · rw [(a2 j (by omega)).1]
      by_cases hik : i < l1.length
      · rw [(a1 i hik).1] at e
        intro e2
        have := b1 i hik g e
        have := b2 (j - l1.length) (by omega) g e2
        omega
      · rw [(a2 i (by omega)).1] at e
        exact h2.sep (i - l1.length) (j - l1.length) (by omega) (by omega) g e
  · rw [List.length_append] at hi
    have hlt : (∃ q, (us1 ++ us2).getD i (.bool false) = q) := ⟨_, rfl⟩
    by_cases hik : i < l1.length
    · rw [(a1 i hik).1] at e
      rcases hat with e1 | e1
      · rw [e1]; exact h1.vsep i hik g e
      · rw [e1]; intro e2; injection e2 with e2; have := b1 i hik g e; omega
    · rw [(a2 i (by omega)).1] at e
      have := b2 (i - l1.length) (by omega) g e
      rcases hat with e1 | e1
      · rw [e1]; intro e2; have := hv1 g e2; omega
      · rw [e1]; intro e2; injection e2 with e2; omega

/-- where all stands. -/
structure AL (w : World) (ls : List (List UInt8)) (p k : Nat) (ov : Value) (us : List Value) (hv : Value) (hh bb : Nat) (wr : World) : Prop where
  dv : DV wr p (feeds ⟨[], 0⟩ (ls.take k)).2 hv hh bb
  rx : RX w.heap.size wr (feeds ⟨[], 0⟩ (ls.take k)).1 ov us
  sep : ∀ g, InX ov us g → ¬ FD p hv g
  out : ∀ g, FD p hv g → w.heap.size ≤ g
  below : Below w.heap.size w wr
theorem feeds_next (ls : List (List UInt8)) (k : Nat) (hk : k < ls.length) : feeds ⟨[], 0⟩ (ls.take (k + 1)) = ((feeds ⟨[], 0⟩ (ls.take k)).1 ++ (feed (feeds ⟨[], 0⟩ (ls.take k)).2 (ls.getD k [])).1, (feed (feeds ⟨[], 0⟩ (ls.take k)).2 (ls.getD k [])).2) := by
  rw [List.take_succ_eq_append_getElem hk, feeds_snoc, List.getD_eq_getElem?_getD, List.getElem?_eq_getElem hk]
  rfl
theorem AL.next {w : World} {ls : List (List UInt8)} {p k : Nat} {ov : Value} {us : List Value} {hv : Value} {hh bb : Nat} {wr wc wf w5 : World} (h : AL w ls p k ov us hv hh bb wr) (hk : k < ls.length) (hc : Below wr.heap.size wr wc)
    {l2 : List (List UInt8)} {d2 : Dc} (hfe : feed (feeds ⟨[], 0⟩ (ls.take k)).2 (ls.getD k []) = (l2, d2)) {rv hv' v5 : Value} {us2 : List Value} {hh' bb' : Nat} (hf : FeedR w.heap.size wc p l2 d2 hv rv us2 hv' hh' bb' wf)
    (hown : Par.Own w5 w.heap.size 22 v5 (us ++ us2)) (hg : wf.grownBy w5 ov.ownBlock) (hat : v5.ownBlock = ov.ownBlock ∨ v5.ownBlock = some wf.heap.size) : AL w ls p (k + 1) v5 (us ++ us2) hv' hh' bb' w5 := by
  have hn := feeds_next ls k hk
  rw [hfe] at hn
  have hzc := hc.size
  have hzf := hf.kept.size
  have hlt := h.rx.lt
  have hrc : RX w.heap.size wc (feeds ⟨[], 0⟩ (ls.take k)).1 ov us := h.rx.keep fun g hg => hc.block g (hlt g hg).2
  have hkf : ∀ g, InX ov us g → wf.heap[g]? = wc.heap[g]? := fun g hgx => hf.kept.block g (by have := (hlt g hgx).2; omega) (h.sep g hgx)
  have hj := hrc.join hf.rx (by have := h.below.size; omega) hkf hzf hown hg hat
  have hov : ∀ g, ov.ownBlock = some g → InX ov us g := fun g e => .inl e
  have hnov : ∀ g, FD p hv' g → g ≠ wf.heap.size ∧ ov.ownBlock ≠ some g := fun g hgf => by
    refine ⟨fun e => by have := hf.dv.lt g hgf; omega, fun e => ?_⟩
    rcases hf.grows g hgf with h1 | h1
    · exact h.sep g (.inl e) h1
    · have := (hlt g (.inl e)).2; omega
  refine ⟨?_, by rw [hn]; exact hj, fun g hgx hgf => ?_, hf.out, ?_⟩
  · rw [hn]
    exact hf.dv.keep fun g hgf => hg.block g (hf.dv.lt g hgf) (fun e => (hnov g hgf).2 e.symm)
  · rcases hgx with e | ⟨i, hi, e⟩
    · rcases hat with e1 | e1
      · exact (hnov g hgf).2 (e1 ▸ e)
      · rw [e1] at e; injection e with e; exact (hnov g hgf).1 e.symm
    · rw [List.length_append] at hi
      by_cases hik : i < us.length
      · rw [List.getD_eq_getElem?_getD, List.getElem?_append_left hik, ← List.getD_eq_getElem?_getD] at e
        have hgi : InX ov us g := .inr ⟨i, hik, e⟩
        rcases hf.grows g hgf with h1 | h1
        · exact h.sep g hgi h1
        · have := (hlt g hgi).2; omega
      · rw [List.getD_eq_getElem?_getD, List.getElem?_append_right (by omega), ← List.getD_eq_getElem?_getD] at e
        exact hf.sep g (.inr ⟨i - us.length, by omega, e⟩) hgf
  · have hb := (h.below.trans (hc.mono h.below.size)).trans hf.below
    exact hb.grown hg (by have := h.below.size; omega) (fun g e => (hlt g (.inl e)).1)

set_option maxRecDepth 20000 in
set_option maxHeartbeats 1000000 in
theorem all_any (v : Value) (ls : List (List UInt8)) (w : World) (m : Int) (hs : RowsAt (· < w.heap.size) w v ls) (hl : ∀ l ∈ ls, l.length ≤ 1000000) (hn : ls.flatten.length ≤ 1000000000) (hG : Gl w m) :
    Calls Tryd.prog 19 #[v] w fun e w' => ∃ A c, e = .returned (.tuple #[.slice A (run ls.flatten).1.length c, .int .i64 (run ls.flatten).2.2, .int .i64 ((run ls.flatten).2.1.length : Nat)]) ∧ Hid (RowsAt (fun k => w.heap.size ≤ k ∧ k < w'.heap.size) w' (.slice A (run ls.flatten).1.length c) (run ls.flatten).1 ∧ Below w.heap.size w w') := by
  have hrun := feeds_run ls
  have hcnt := run_count _ ls.flatten (Nat.le_refl _)
  obtain ⟨A, c, rfl, hc, hm, HA⟩ := hs.open_
  have hz := hG.size
  have HG := Lib.hid hG; have HRUN := Lib.hid hrun; have HCNT : Hid (∀ k, (feeds ⟨[], 0⟩ (ls.take k)).1.length ≤ 1000000000) := Lib.hid fun k => by
    have := feeds_take ls ⟨[], 0⟩ k
    rw [hrun] at this
    dsimp only at this
    omega
  have HL : Hid (∀ k, k < ls.length → (ls.getD k []).length ≤ 1000000) := Lib.hid fun k hk => by
    rw [List.getD_eq_getElem?_getD, List.getElem?_eq_getElem hk]; exact hl _ (List.getElem_mem hk)
  clear hG hs hl hrun hcnt hn
  go_enter Tryd.func19, Tryd.ntmps19
  go_wp2_with (go_at_call 16; refine (new_s w hz).mono ?_; rintro e wn ⟨rfl, HN⟩)
  have hAL0 : AL w ls w.heap.size 0 (.slice (some ⟨wn.heap.size, 0, none⟩) 0 0) [] (.slice none 0 0) 0 0 (wn.alloc (.cells #[] 22)) := by
    have hzn := HN.out.2.size
    refine ⟨HN.out.1.keep fun k hk => Below.heap_alloc _ _ _ (HN.out.1.lt k hk), ⟨rfl, Par.Own.new wn _ 22 #[] [] rfl hzn (by simp), fun i hi => by simp [feeds] at hi, fun i j _ hj => by simp [feeds] at hj, fun i hi => by simp [feeds] at hi⟩, ?_, (fun g hg => by rcases hg with rfl | e; exact Nat.le_refl _; cases e), HN.out.2.alloc hzn _⟩
    rintro g (e | ⟨i, hi, -⟩) hgf
    · injection e with e
      rcases hgf with rfl | e2
      · have := HN.out.1.dec.lt; dsimp only at e; omega
      · cases e2
    · simp at hi
  have HAL0 := Lib.hid hAL0
  clear hAL0
  go_loopw [6, 7, 8, 9, 10] (fun ov ev iv _ _ wr => ∃ (k : Nat) (us : List Value) (hv : Value) (hh bb : Nat), k ≤ ls.length ∧ iv = .int .i64 k ∧ ev = .int .i64 (feeds ⟨[], 0⟩ (ls.take k)).2.e ∧ Hid (AL w ls w.heap.size k ov us hv hh bb wr)) (fun _ _ iv _ _ _ => ls.length - (intOf iv).toNat)
  case atStart => exact ⟨0, [], _, 0, 0, by omega, rfl, rfl, HAL0⟩
  case round =>
    obtain ⟨k, us, hv, hh, bb, hk, rfl, rfl, HI⟩ := hrel
    by_cases hlt : k < ls.length
    · obtain ⟨b, off, A1, c1, rfl, hb, hcell, hsg⟩ := HA.out wr HI.out.below k hlt
      obtain ⟨r2, hr2⟩ : ∃ r2, r2 = feed (feeds ⟨[], 0⟩ (ls.take k)).2 (ls.getD k []) := ⟨_, rfl⟩
      obtain ⟨l2, d2⟩ := r2
      obtain ⟨P, hP⟩ : ∃ P, P = ls.getD k [] := ⟨_, rfl⟩
      have hPl := HL.out k hlt
      rw [← hP] at hcell hsg hPl
      have HR2 := Lib.hid hr2
      have HSG := Lib.hid hsg; have HP := Lib.hid hP
      obtain ⟨E0, hE0⟩ : ∃ E0, E0 = (feeds ⟨[], 0⟩ (ls.take k)).2.e := ⟨_, rfl⟩
      rw [← hE0]
      clear hr2 hsg hP hE0
      go_wp2_with (go_at_call 15; refine (copy_s _ P wr (HSG.out.more HI.out.below.size) hPl).mono ?_; rintro e wc ⟨A2, c2, rfl, HC⟩)
      have hBc := HI.out.below.trans (HC.out.2.mono HI.out.below.size)
      refine (feed_s w.heap.size _ _ hv hh bb wc m _ P (HI.out.dv.keep fun g hg => HC.out.2.block g (HI.out.dv.lt g hg)) HI.out.out hBc.size HC.out.1.seg (by omega) (HG.out.below hBc) (ls := l2) (d' := d2) (by rw [HP.out]; exact HR2.out.symm)).mono ?_
      rintro e wf ⟨Ar, cr, us2, hv', hh', bb', rfl, HF⟩
      clear hBc
      have hovc : Par.Own wf w.heap.size 22 u6 us := own_turn HI.out.rx.own fun g e => by
        have h1 := (HI.out.rx.lt g (.inl e)).2
        rw [HF.out.kept.block g (by have := HC.out.2.size; omega) (HI.out.sep g (.inl e)), HC.out.2.block g h1]
      have hus : us.length + us2.length ≤ 1000000000 := by
        have h1 := HCNT.out (k + 1)
        rw [feeds_next ls k hlt, ← HR2.out, List.length_append] at h1
        have h2 := HI.out.rx.len
        have h3 := HF.out.rx.len
        dsimp only at h1
        omega
      have HOV := Lib.hid hovc
      clear hovc
      go_wp2_with (at_builtin; refine wpList_app _ rfl _ _ _ rfl w.heap.size 22 _ rowE _ us rfl HOV.out wf.heap.size _ us2 rfl HF.out.rx.own.seg HF.out.rx.one ?c1 ?c2 ?_)
      case c1 => omega
      case c2 => have h1 := HI.out.below.size; have h2 := HC.out.2.size; have h3 := HF.out.kept.size; omega
      intro v5 w5 hown5 hg5 hat5
      have HN5 := Lib.hid (HI.out.next hlt HC.out.2 HR2.out.symm HF.out hown5 hg5 hat5)
      have HE5 : Hid (d2.e = (feeds ⟨[], 0⟩ (ls.take (k + 1))).2.e) := Lib.hid (by rw [feeds_next ls k hlt, ← HR2.out])
      clear hown5 hg5 hat5
      go_wp2
      go_roundw
      case rel => exact ⟨k + 1, _, _, _, _, by omega, by go_num, by rw [HE5.out], HN5⟩
      case measure => simp [intOf]; omega
    · have hkl : k = ls.length := by omega
      have htk : ls.take k = ls := by rw [hkl, List.take_length]
      have hdv := HI.out.dv
      rw [htk, HRUN.out] at hdv
      have hrx := HI.out.rx
      rw [htk, HRUN.out] at hrx
      dsimp only at hdv hrx
      obtain ⟨Ao, co, hov⟩ := hrx.own.form
      have HDV := Lib.hid hdv; have HRX := Lib.hid hrx; have HOVF := Lib.hid hov
      obtain ⟨E0, hE0⟩ : ∃ E0, E0 = (feeds ⟨[], 0⟩ (ls.take k)).2.e := ⟨_, rfl⟩
      have hE1 : E0 = (run ls.flatten).2.2 := by rw [hE0, htk, HRUN.out]
      rw [← hE0]
      have HE1 := Lib.hid hE1
      clear hkl htk hdv hrx hov hE0 hE1
      go_wp2_with (go_at_call 24; refine (held_any wr _ _ _ _ _ HDV.out).mono ?_; rintro e we ⟨rfl, rfl⟩)
      go_ret3
      have h1 := HRX.out
      rw [HOVF.out, HRX.out.len] at h1
      refine ⟨Ao, co, ?_, Lib.hid ⟨h1.rows.sub fun g hg => h1.lt g hg, HI.out.below⟩⟩
      rw [HE1.out]
      show Ending.returned (.tuple #[u6, _, _]) = _
      rw [HOVF.out, HRX.out.len]
      rfl
end Go.Proofs.YtffblcefnckacaaDoor
