/- A closed type is right, closes to itself, and each is an instance of the other: plain. -/
import Derived.Test.YtbhicpjhijondaaDoorT49
namespace Go.Typ
open Go.RowKit Go.Lib Go.Vfs Go.Par
theorem renT_parts (f : Int → Int) (T : Ty) : (renT f T).parts ≤ T.parts := by
  induction T using Ty.ind with
  | h T ih =>
    rw [renT_eq]
    split
    · show 1 + 0 ≤ _; exact T.parts_pos
    · have key : ∀ ts : List Ty, (∀ t ∈ ts, (renT f t).parts ≤ t.parts) → partsL (ts.map (renT f)) ≤ partsL ts := by
        intro ts
        induction ts with
        | nil => intro _; exact Nat.le_refl _
        | cons t ts ih2 =>
          intro h
          rw [List.map_cons, partsL, partsL]
          have h1 := h t (by simp)
          have h2 := ih2 fun x hx => h x (by simp [hx])
          omega
      rw [T.parts_eq]
      show 1 + partsL (T.args.map (renT f)) ≤ _
      have := key T.args fun t ht => by obtain ⟨i, hi, rfl⟩ := List.getElem_of_mem ht; exact ih i hi
      omega
theorem idx_get {L : List Int} {n : Int} (h : n ∈ L) : L.getD (L.idxOf n) 0 = n := by
  have hl := List.idxOf_lt_length_of_mem h
  rw [List.getD_eq_getElem?_getD, List.getElem?_eq_getElem hl]
  exact List.getElem_idxOf hl
theorem idx_of_get {L : List Int} (hn : L.Nodup) {i : Nat} (hi : i < L.length) : L.idxOf L[i] = i := by
  have hm : L[i] ∈ L := List.getElem_mem hi
  have hl := List.idxOf_lt_length_of_mem hm
  have he : L[L.idxOf L[i]] = L[i] := List.getElem_idxOf hl
  have hp := List.pairwise_iff_getElem.1 hn
  rcases Nat.lt_trichotomy (L.idxOf L[i]) i with h | h | h
  · exact absurd he (hp _ _ hl hi h)
  · exact h
  · exact absurd he.symm (hp _ _ hi hl h)
/-- a variable stands where a variable stood. -/
theorem meets_ren (f : Int → Int) (G : Ty) : meetsT (fun _ U => U.args = []) G (renT f G) := by
  induction G using Ty.ind with
  | h G ih =>
    rw [meetsT_eq, renT_eq]
    split
    · rfl
    · have key : ∀ gs : List Ty, (∀ g ∈ gs, meetsT (fun _ U => U.args = []) g (renT f g)) → meetsL (fun _ U => U.args = []) gs (gs.map (renT f)) := by
        intro gs
        induction gs with
        | nil => intro _; rw [meetsL]; trivial
        | cons g gs ih2 => intro h; rw [List.map_cons, meetsL]; exact ⟨h g (by simp), ih2 fun x hx => h x (by simp [hx])⟩
      exact key _ fun g hg => by obtain ⟨i, hi, rfl⟩ := List.getElem_of_mem hg; exact ih i hi
end Go.Typ
namespace Go.Proofs.YtbhicpjhijondaaDoor
open Go.RowKit Go.Lib Go.Vfs Go.Par Go.Typ Go.Shelf
set_option linter.unusedVariables false
set_option linter.unusedSimpArgs false

theorem fits_num {T : Ty} (h : fitsT T = true) (hk : ¬ T.kind = 1) : T.num = 0 := by
  obtain ⟨k, n, s, ts⟩ := T
  rcases fits_kinds h with ⟨h1, _⟩ | ⟨_, h1, _⟩ | ⟨_, h1, _⟩ | ⟨_, h1, _⟩
  · exact absurd h1 hk
  all_goals exact h1
theorem fits_var {n : Int} (h0 : 0 ≤ n) (h1 : n < 1073741824) : fitsT (.mk 1 n ⟨#[]⟩ []) = true := by
  unfold fitsT
  simp [Ty.kind, Ty.num, Ty.name, Ty.args, h0, h1]
theorem fits_args {k n : Int} {s : ByteArray} {ts us : List Ty} (h : fitsT (.mk k n s ts) = true) (hl : us.length = ts.length) : fitsT (.mk k n s us) = true := by
  have e : fitsT (.mk k n s us) = fitsT (.mk k n s ts) := by
    unfold fitsT
    rw [show (Ty.mk k n s us).args.length = (Ty.mk k n s ts).args.length from hl]
    rfl
  rw [e]; exact h
theorem fit_ren (f : Int → Int) (T : Ty) : FitAll T → (∀ n, 0 ≤ f n ∧ f n < 1073741824) → FitAll (renT f T) := by
  induction T using Ty.ind with
  | h T ih =>
    intro hF hf x hx
    rw [renT_eq] at hx
    split at hx
    · rw [Ty.list_eq] at hx
      have : x = .mk 1 (f T.num) ⟨#[]⟩ [] := by simpa [listL, Ty.args] using hx
      rw [this]
      exact fits_var (hf _).1 (hf _).2
    · rename_i hk
      rw [Ty.list_eq] at hx
      rcases List.mem_cons.1 hx with rfl | hx
      · have h := hF.self
        have h0 := fits_num h hk
        rw [T.eta, h0] at h
        exact fits_args h (by rw [List.length_map])
      · have hx : x ∈ listL (T.args.map (renT f)) := hx
        have key : ∀ ts : List Ty, (∀ t ∈ ts, ∀ x ∈ (renT f t).list, fitsT x = true) → ∀ x ∈ listL (ts.map (renT f)), fitsT x = true := by
          intro ts
          induction ts with
          | nil => intro _ x hx; simp [listL] at hx
          | cons t ts ih2 =>
            intro h x hx
            rw [List.map_cons, listL] at hx
            rcases List.mem_append.1 hx with hx | hx
            · exact h t (by simp) x hx
            · exact ih2 (fun y hy => h y (by simp [hy])) x hx
        refine key T.args (fun t ht => ?_) x hx
        obtain ⟨i, hi, rfl⟩ := List.getElem_of_mem ht
        exact ih i hi (hF.arg hi) hf
theorem ren_ren (f g : Int → Int) (T : Ty) : FitAll T → (∀ x ∈ T.list, x.kind = 1 → g (f x.num) = x.num) → renT g (renT f T) = T := by
  induction T using Ty.ind with
  | h T ih =>
    intro hF hg
    rw [renT_eq f]
    split
    · rename_i hk
      rw [renT, if_pos rfl, hg T (by rw [T.list_eq]; exact List.mem_cons_self) hk]
      exact (fit_var hF.self hk).symm
    · rename_i hk
      rw [renT, if_neg hk, renL_map]
      have key : (T.args.map (renT f)).map (renT g) = T.args := by
        rw [List.map_map]
        refine (List.map_congr_left fun t ht => ?_).trans (List.map_id _)
        obtain ⟨i, hi, rfl⟩ := List.getElem_of_mem ht
        exact ih i hi (hF.arg hi) fun x hx => hg x (by rw [T.list_eq]; exact List.mem_cons_of_mem _ (mem_listL ht hx))
      rw [key, ← fits_num hF.self hk]
      exact T.eta.symm
/-- what stands in the places of numbered variables makes an instance. -/
theorem inst_ren (f : Int → Int) {T : Ty} (h : rightT T = true) (hr : rightT (renT f T) = true) : instT T (renT f T) = true := by
  have hF := (rightT_iff.1 h).2
  unfold instT
  rw [h, hr, Bool.true_and, Bool.true_and]
  refine (stands_sub (fun n => .mk 1 (f n) ⟨#[]⟩ []) (renT f) T (fun x hx hk => ?_) (fun x hx hk => ?_) [] (KnS.nil _)).1
  · rw [renT_eq, if_pos hk]
  · rw [renT_eq, if_neg hk, fits_num (hF x hx) hk]
/-- what is so of a closed type. -/
structure Closed (T R : Ty) (L : List Int) : Prop where
  right : rightT R = true
  again : closeR R = R
  vars : (closeT R []).2 = (List.range L.length).map (fun i : Nat => (i : Int))
  inTo : instT T R = true
  inFrom : instT R T = true
  leafTo : meetsT (fun _ U => U.args = []) T R
  leafFrom : meetsT (fun _ U => U.args = []) R T
  len : L.length ≤ 300
theorem closed_of {T : Ty} (h : rightT T = true) : Closed T (closeR T) (closeT T []).2 := by
  obtain ⟨hp, hF⟩ := rightT_iff.1 h
  obtain ⟨L, hL⟩ : ∃ L, L = (closeT T []).2 := ⟨_, rfl⟩
  have hlen : L.length ≤ 300 := by have := closeT_len T []; rw [← hL] at this; simp at this; omega
  have hR : closeR T = renT (fun n => (L.idxOf n : Int)) T := by
    unfold closeR
    rw [if_pos h]
    exact close_ren T [] L (by rw [hL]; exact List.prefix_refl _)
  have hb : ∀ n, 0 ≤ (L.idxOf n : Int) ∧ (L.idxOf n : Int) < 1073741824 := fun n => by
    have := List.idxOf_le_length (a := n) (l := L); omega
  have hr : rightT (renT (fun n => (L.idxOf n : Int)) T) = true := rightT_iff.2 ⟨Nat.le_trans (renT_parts _ T) hp, fit_ren _ T hF hb⟩
  have hin : ∀ x ∈ T.list, x.kind = 1 → x.num ∈ L := fun x hx hk => by
    rw [hL]
    refine close_mem T [] x hx hk ?_ (fun y hy hy1 => by rw [fit_var (hF y hy) hy1]; rfl)
    by_cases h1 : T.kind = 1
    · exact .inl (by rw [fit_var hF.self h1]; rfl)
    · exact .inr h1
  have hback : renT (fun i => L.getD i.toNat 0) (renT (fun n => (L.idxOf n : Int)) T) = T :=
    ren_ren _ _ T hF fun x hx hk => by
      show L.getD (((L.idxOf x.num : Nat) : Int).toNat) 0 = _
      rw [Int.toNat_natCast]
      exact idx_get (hin x hx hk)
  have hcl := close_map (fun n => (L.idxOf n : Int)) L (fun a ha b hb e => by
    have e' : L.idxOf a = L.idxOf b := by have : ((L.idxOf a : Nat) : Int) = (L.idxOf b : Nat) := e; omega
    rw [← idx_get ha, e', idx_get hb]) T [] (fun x hx => by rw [hL]; exact hx)
  rw [List.map_nil] at hcl
  have hR1 : (closeT T []).1 = renT (fun n => (L.idxOf n : Int)) T := close_ren T [] L (by rw [hL]; exact List.prefix_refl _)
  rw [← hL, hR]
  refine ⟨hr, ?_, ?_, inst_ren _ h hr, ?_, meets_ren _ T, ?_, hlen⟩
  · unfold closeR
    rw [if_pos hr, hcl, hR1]
  · rw [hcl]
    simp only
    rw [← hL]
    have hn : L.Nodup := by rw [hL]; exact close_nodup T [] List.nodup_nil
    refine List.ext_getElem (by simp) fun i h1 h2 => ?_
    simp only [List.getElem_map, List.getElem_range]
    rw [idx_of_get hn]
  · have := inst_ren (fun i => L.getD i.toNat 0) hr (by rw [hback]; exact h)
    rw [hback] at this
    exact this
  · have := meets_ren (fun i => L.getD i.toNat 0) (renT (fun n => (L.idxOf n : Int)) T)
    rw [hback] at this
    exact this
end Go.Proofs.YtbhicpjhijondaaDoor
