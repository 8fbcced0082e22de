/- The reference: field. -/
import Derived.Test.YtffblcefnckacaaDoorLawS
namespace Go.Frm
open Go.Lib
set_option linter.unusedVariables false
set_option linter.unusedSimpArgs false
/-- what the reference's field answers. -/
def fieldI (line : List UInt8) : Int := match fieldV line with
  | none => -2
  | some none => -1
  | some (some n) => n
theorem fold_nm (c : UInt8) : nmB c = decide ((97 ≤ (foldB c).toNat ∧ (foldB c).toNat ≤ 122) ∨ c.toNat = 45) := by
  have h256 : ∀ n : Fin 256, nmB (UInt8.ofNat n.val) = decide ((97 ≤ (foldB (UInt8.ofNat n.val)).toNat ∧ (foldB (UInt8.ofNat n.val)).toNat ≤ 122) ∨ (UInt8.ofNat n.val).toNat = 45) := by decide +kernel
  have := h256 ⟨c.toNat, c.toNat_lt⟩
  simpa only [UInt8.ofNat_toNat] using this
theorem fold_58 (c : UInt8) (h : 97 ≤ (foldB c).toNat) : c.toNat ≠ 58 := by
  have h256 : ∀ n : Fin 256, 97 ≤ (foldB (UInt8.ofNat n.val)).toNat → (UInt8.ofNat n.val).toNat ≠ 58 := by decide +kernel
  have := h256 ⟨c.toNat, c.toNat_lt⟩
  simp only [UInt8.ofNat_toNat] at this
  exact this h
theorem blank_nat (c : UInt8) : blankB c = decide (c.toNat = 32 ∨ c.toNat = 9) := by
  have h256 : ∀ n : Fin 256, blankB (UInt8.ofNat n.val) = decide ((UInt8.ofNat n.val).toNat = 32 ∨ (UInt8.ofNat n.val).toNat = 9) := by decide +kernel
  have := h256 ⟨c.toNat, c.toNat_lt⟩
  simpa only [UInt8.ofNat_toNat] using this
/-- where the name ends. -/
theorem tw_stop {p : UInt8 → Bool} : ∀ {l : List UInt8} {k : Nat}, (l.take k).all p = true → k < l.length → p (l.getD k 0) = false → l.takeWhile p = l.take k ∧ l.dropWhile p = l.drop k
  | [], k, _, hk, _ => by simp at hk
  | c :: l, 0, _, _, h => by
    have h' : p c = false := h
    simp [List.takeWhile, List.dropWhile, h']
  | c :: l, k + 1, ha, hk, h => by
    rw [List.take_succ_cons, List.all_cons, Bool.and_eq_true] at ha
    have ih := tw_stop (l := l) (k := k) ha.2 (by simpa using hk) h
    simp [List.takeWhile, List.dropWhile, ha.1, ih.1, ih.2]
theorem tw_all {p : UInt8 → Bool} : ∀ {l : List UInt8}, l.all p = true → l.dropWhile p = []
  | [], _ => rfl
  | c :: l, h => by
    rw [List.all_cons, Bool.and_eq_true] at h
    simp [List.dropWhile, h.1, tw_all h.2]
theorem trimL_cons {c : UInt8} (l : List UInt8) (h : blankB c = true) : trimL (c :: l) = trimL l := by simp [trimL, List.dropWhile, h]
theorem trimL_keep {c : UInt8} (l : List UInt8) (h : blankB c = false) : trimL (c :: l) = c :: l := by simp [trimL, List.dropWhile, h]
theorem field_all {line : List UInt8} (h : line.all nmB = true) : fieldI line = -2 := by
  unfold fieldI fieldV; rw [tw_all h]
theorem field_zero {line : List UInt8} (h : line.takeWhile nmB = []) : fieldI line = -2 := by
  unfold fieldI fieldV
  split <;> rename_i hx
  · rfl
  · rename_i hy; revert hx; split <;> simp [h]
  · revert hx; split <;> simp [h]
theorem field_not {line : List UInt8} {k : Nat} (ha : (line.take k).all nmB = true) (hk : k < line.length) (h1 : nmB (line.getD k 0) = false) (h2 : (line.getD k 0).toNat ≠ 58) : fieldI line = -2 := by
  have h3 := (tw_stop ha hk h1).2
  have h4 : line.drop k = line.getD k 0 :: line.drop (k + 1) := by
    rw [List.drop_eq_getElem_cons hk, List.getD_eq_getElem?_getD, List.getElem?_eq_getElem hk]; rfl
  unfold fieldI fieldV
  rw [h3, h4]
  split <;> rename_i hx
  · rfl
  · revert hx; split
    · rename_i he; injection he with he; exact absurd (by rw [he]; rfl) h2
    · intro h; cases h
  · revert hx; split
    · rename_i he; injection he with he; exact absurd (by rw [he]; rfl) h2
    · intro h; cases h
theorem field_yes {line : List UInt8} {k : Nat} (ha : (line.take k).all nmB = true) (hk : k < line.length) (h0 : 0 < k) (h2 : (line.getD k 0).toNat = 58) :
    fieldV line = if (line.drop (k + 1)).any crlf then none else if (line.take k).map foldB = clen then (sizeV (trimB (line.drop (k + 1)))).map some else some none := by
  have h58 : line.getD k 0 = 58 := UInt8.toNat_inj.1 (h2.trans rfl)
  have h3 := tw_stop ha hk (by rw [h58]; exact nm58)
  have h4 : line.drop k = 58 :: line.drop (k + 1) := by
    rw [List.drop_eq_getElem_cons hk, ← h58, List.getD_eq_getElem?_getD, List.getElem?_eq_getElem hk]; rfl
  unfold fieldV
  rw [h3.1, h3.2, h4]
  have hne : line.take k ≠ [] := fun h => by have := congrArg List.length h; rw [List.length_take, List.length_nil] at this; omega
  simp only
  rw [if_neg hne]; rfl
/-- the blanks behind. -/
def rtr (l : List UInt8) : List UInt8 := (trimL l.reverse).reverse
theorem trimB_rtr (l : List UInt8) : trimB l = rtr (trimL l) := rfl
theorem trimL_drop {l : List UInt8} (h : blankB (l.getD 0 0) = true) (hl : 0 < l.length) : trimL (l.drop 1) = trimL l := by
  cases l with
  | nil => simp at hl
  | cons c l => have h' : blankB c = true := h; simp [trimL, List.dropWhile, h']
theorem trimL_stop {l : List UInt8} (h : l = [] ∨ blankB (l.getD 0 0) = false) : trimL l = l := by
  cases l with
  | nil => rfl
  | cons c l =>
    have h' : blankB c = false := by rcases h with h | h; cases h; exact h
    simp [trimL, List.dropWhile, h']
theorem rtr_take {l : List UInt8} {m : Nat} (hl : l.length = m + 1) (h : blankB (l.getD m 0) = true) : rtr (l.take m) = rtr l := by
  have e : l = l.take m ++ [l.getD m 0] := by
    conv => lhs; rw [← List.take_append_drop m l, List.drop_eq_getElem_cons (show m < l.length by omega), List.drop_of_length_le (by omega)]
    rw [List.getD_eq_getElem?_getD, List.getElem?_eq_getElem (by omega)]; rfl
  conv => rhs; rw [e]
  unfold rtr
  rw [List.reverse_append, List.reverse_singleton, List.singleton_append]
  rw [show trimL (l.getD m 0 :: (l.take m).reverse) = trimL (l.take m).reverse from trimL_cons _ h]
theorem rtr_stop {l : List UInt8} {m : Nat} (hl : l.length = m + 1) (h : blankB (l.getD m 0) = false) : rtr l = l := by
  have e : l = l.take m ++ [l.getD m 0] := by
    conv => lhs; rw [← List.take_append_drop m l, List.drop_eq_getElem_cons (show m < l.length by omega), List.drop_of_length_le (by omega)]
    rw [List.getD_eq_getElem?_getD, List.getElem?_eq_getElem (by omega)]; rfl
  have e2 : l.reverse = l.getD m 0 :: (l.take m).reverse := by
    conv => lhs; rw [e]
    rw [List.reverse_append, List.reverse_singleton, List.singleton_append]
  unfold rtr
  rw [show trimL l.reverse = l.reverse by rw [e2]; exact trimL_keep _ h, List.reverse_reverse]
end Go.Frm
namespace Go.Proofs.YtffblcefnckacaaDoor
open Go.RowKit Go.Lib Go.Vfs Go.Par Go.Frm Go.Shelf
set_option linter.unusedVariables false
set_option linter.unusedSimpArgs false

def lenV : Value → Nat
  | .slice _ n _ => n
  | _ => 0

theorem at_of {w : World} {A : Option Addr} {n c : Nat} {l : List UInt8} (h : SegS (· < w.heap.size) w (.slice A n c) (byteCells l)) (hn : n = l.length) : At w w.heap.size A n (fun i => .int .u8 (l.getD i 0).toNat) := by
  subst hn
  obtain ⟨A', c', e', -, -, h'⟩ := (h.seg fun _ h => h).open_bytes (B := w.heap.size)
  injection e' with e1 e2 e3
  subst e1
  exact h'
theorem sizeV_nil : sizeV [] = none := rfl

set_option maxRecDepth 100000 in
set_option maxHeartbeats 4000000 in
theorem field_any (A : Option Addr) (c : Nat) (line : List UInt8) (w : World) (hs : Seg w w.heap.size (.slice A line.length c) (byteCells line)) (hnil : A = none → c = 0) (hl : line.length ≤ 100000) :
    Calls Tryd.prog 34 #[.slice A line.length c] w fun e w' => e = .returned (.int .i64 (fieldI line)) ∧ Hid (Below w.heap.size w w') := by
  obtain ⟨A', c', he, hc, hm, ha⟩ := hs.open_bytes
  injection he with he1 he2 he3
  subst he1 he3
  obtain ⟨N, hN⟩ : ∃ N, N = line.length := ⟨_, rfl⟩
  obtain ⟨R, hR⟩ : ∃ R, R = fieldI line := ⟨_, rfl⟩
  rw [← hN] at hs hl hc ha ⊢
  rw [← hR]
  have HA := Lib.hid ha; have HN := Lib.hid hN; have HS := Lib.hid hs; have HR := Lib.hid hR
  have hown0 : Par.Own (w.alloc (.cells #[] 5)) w.heap.size 5 (.slice (some ⟨w.heap.size, 0, none⟩) 0 0) (byteCells ((line.take 0).map foldB)) := Par.Own.new w _ 5 #[] [] rfl (Nat.le_refl _) (by simp)
  have HO0 := Lib.hid hown0
  clear ha hN hs hR hown0 he2
  have hf45 : Fence.wide.fn 45 := trivial
  go_enter Tryd.func34, Tryd.ntmps34
  go_wp2
  go_loopw [3, 4] (fun kv nv W => ∃ k : Nat, k ≤ N ∧ kv = .int .i64 k ∧ Hid (Par.Own W w.heap.size 5 nv (byteCells ((line.take k).map foldB)) ∧ (line.take k).all nmB = true ∧ Below w.heap.size w W)) (fun kv _ _ => N - (intOf kv).toNat)
  case atStart => exact ⟨0, by omega, rfl, Lib.hid ⟨HO0.out, by simp, (Below.refl _ _).alloc (Nat.le_refl _) _⟩⟩
  case round =>
    obtain ⟨k, hk, rfl, HI⟩ := hrel
    by_cases hlt : k < N
    · obtain ⟨b, off, x, rfl, hb, hc1, hx, Hx⟩ := (HA.out.below HI.out.2.2).byte hlt
      obtain ⟨y, hy⟩ : ∃ y, y = (foldB (line.getD k 0)).toNat := ⟨_, rfl⟩
      have HFO : Hid (∀ X, Calls Tryd.prog 45 #[.int .u8 (x : Nat)] X fun e w' => e = .returned (.int .u8 (y : Nat)) ∧ w' = X) := Lib.hid fun X => by
        have h := folded_any (line.getD k 0) X
        rwa [Hx.out, ← hy] at h
      have HNM : Hid (nmB (line.getD k 0) = decide ((97 ≤ y ∧ y ≤ 122) ∨ x = 45)) := Lib.hid (by rw [fold_nm, ← hy, Hx.out])
      have HY := Lib.hid hy
      clear hy
      have hcase : ((97 ≤ y ∧ y ≤ 122) ∨ (97 ≤ y ∧ 122 < y ∧ x = 45) ∨ (y < 97 ∧ x = 45)) ∨ (97 ≤ y ∧ 122 < y ∧ x ≠ 45) ∨ (y < 97 ∧ x ≠ 45) := by omega
      rcases hcase with hT | hq | hq
      · have HOV : Hid (∀ o, Par.Own (wr.alloc o) w.heap.size 5 u4 (byteCells ((line.take k).map foldB))) := Lib.hid fun o => HI.out.1.alloc o
        have hzr := HI.out.2.2.size
        have hyl : y < 256 := by rw [HY.out]; exact (foldB (line.getD k 0)).toNat_lt
        have HLN : Hid ((byteCells ((line.take k).map foldB)).length ≤ 100000) := Lib.hid (by rw [byteCells_length, List.length_map, List.length_take]; have := HN.out; omega)
        have HTK : Hid ((line.take (k + 1)).all nmB = true ∧ byteCells ((line.take (k + 1)).map foldB) = byteCells ((line.take k).map foldB) ++ [.int .u8 (y : Nat)]) := Lib.hid ⟨all_take_succ HI.out.2.1 (by have := HN.out; omega) (by rw [HNM.out]; exact decide_eq_true (by omega)), by
          have hk2 : k < line.length := by have := HN.out; omega
          rw [List.take_succ_eq_append_getElem hk2, List.map_append, byteCells_append, HY.out, List.getD_eq_getElem?_getD, List.getElem?_eq_getElem hk2]
          rfl⟩
        rcases hT with hq | hq | hq
        all_goals
          (have HQ := Lib.hid hq)
          (try have g3 : (97 : Int) ≤ (y : Int) := by omega)
          (try have g3 : ¬ (97 : Int) ≤ (y : Int) := by omega)
          (try have g4 : (y : Int) ≤ 122 := by omega)
          (try have g4 : ¬ (y : Int) ≤ 122 := by omega)
          (try have g5 : ((x : Int) == 45) = true := by simp; omega)
          (try have g5 : ((x : Int) == 45) = false := by simp; omega)
          clear hq
          go_wp2_with (first
            | (go_at_call 45; refine (HFO.out _).mono ?_; rintro e w2 ⟨rfl, rfl⟩)
            | (at_builtin; refine wpList_app _ rfl _ _ _ rfl w.heap.size 5 _ byteE _ _ rfl (HOV.out _) (w2.heap.size + 1) _ [.int .u8 (y : Nat)] rfl (Seg.new w2 5 _ _ rfl (by simp [maxLen])) ?k0 ?k1 ?k2 ?_))
          case k0 => first | rfl | (intro x hx; simp at hx; subst hx; rfl)
          case k1 => have := HLN.out; simp only [List.length_cons, List.length_nil]; omega
          case k2 => first | omega | (simp; omega)
          intro v5 w5 hown5 hg5 hat5
          have hb5 := below_app (HI.out.2.2.alloc HI.out.2.2.size _) (HOV.out _) hg5 (by simp; omega)
          have hown6 : Par.Own w5 w.heap.size 5 v5 (byteCells ((line.take (k + 1)).map foldB)) := by rw [HTK.out.2]; first | exact hown5 | (rw [List.map_take]; exact hown5)
          have HN5 := Lib.hid (And.intro hown6 (And.intro HTK.out.1 hb5))
          clear hown5 hown6 hg5 hat5 hb5
          go_wp2
          go_roundw
          case rel => exact ⟨k + 1, by omega, by go_num, HN5⟩
          case measure => simp [intOf]; omega
      · have hx58 : x ≠ 58 := by have := fold_58 (line.getD k 0) (by rw [← HY.out]; omega); rw [Hx.out] at this; exact this
        have HF : Hid (R = -2) := Lib.hid (by
          rw [HR.out]
          exact field_not HI.out.2.1 (by have := HN.out; omega) (by rw [HNM.out]; exact decide_eq_false (by omega)) (by rw [Hx.out]; exact hx58))
        have g6 : ((x : Int) != 58) = true := by simp; omega
        have g7 : ((k : Int) == (N : Int)) = false := by simp; omega
        have hBW : Hid (Below w.heap.size w wr) := Lib.hid HI.out.2.2
        (have HQ := Lib.hid hq)
        (try have g3 : (97 : Int) ≤ (y : Int) := by omega)
        (try have g3 : ¬ (97 : Int) ≤ (y : Int) := by omega)
        (try have g4 : (y : Int) ≤ 122 := by omega)
        (try have g4 : ¬ (y : Int) ≤ 122 := by omega)
        (try have g5 : ((x : Int) == 45) = true := by simp; omega)
        (try have g5 : ((x : Int) == 45) = false := by simp; omega)
        clear hq
        clear hx58
        by_cases hk0 : k = 0
        · have g8 : ((k : Int) == 0) = true := by simp; omega
          clear hk0
          go_wp2_with (go_at_call 45; refine (HFO.out _).mono ?_; rintro e w2 ⟨rfl, rfl⟩)
          go_ret
          exact ⟨by rw [HF.out]; rfl, hBW⟩
        · have g8 : ((k : Int) == 0) = false := by simp; omega
          clear hk0
          go_wp2_with (go_at_call 45; refine (HFO.out _).mono ?_; rintro e w2 ⟨rfl, rfl⟩)
          go_ret
          exact ⟨by rw [HF.out]; rfl, hBW⟩
      · have g7 : ((k : Int) == (N : Int)) = false := by simp; omega
        have hBW : Hid (Below w.heap.size w wr) := Lib.hid HI.out.2.2
        have HNB : Hid (nmB (line.getD k 0) = false) := Lib.hid (by rw [HNM.out]; exact decide_eq_false (by omega))
        (have HQ := Lib.hid hq)
        (try have g3 : (97 : Int) ≤ (y : Int) := by omega)
        (try have g3 : ¬ (97 : Int) ≤ (y : Int) := by omega)
        (try have g4 : (y : Int) ≤ 122 := by omega)
        (try have g4 : ¬ (y : Int) ≤ 122 := by omega)
        (try have g5 : ((x : Int) == 45) = true := by simp; omega)
        (try have g5 : ((x : Int) == 45) = false := by simp; omega)
        clear hq
        by_cases hx58 : x = 58
        · by_cases hk0 : k = 0
          · have HF : Hid (R = -2) := Lib.hid (by
              rw [HR.out]
              subst hk0
              refine field_zero ?_
              rw [(tw_stop HI.out.2.1 (by have := HN.out; omega) HNB.out).1]; rfl)
            have g8 : ((k : Int) == 0) = true := by simp; omega
            clear hk0 hx58
            go_wp2_with (go_at_call 45; refine (HFO.out _).mono ?_; rintro e w2 ⟨rfl, rfl⟩)
            go_ret
            exact ⟨by rw [HF.out]; rfl, hBW⟩
          · have g8 : ((k : Int) == 0) = false := by simp; omega
            have g6 : ((x : Int) != 58) = false := by simp; omega
            have HFV : Hid (fieldV line = if (line.drop (k + 1)).any crlf then none else if (line.take k).map foldB = clen then (sizeV (trimB (line.drop (k + 1)))).map some else some none) := Lib.hid (field_yes HI.out.2.1 (by have := HN.out; omega) (by omega) (by rw [Hx.out]; exact hx58))
            clear hx58 hk0
            have hkl : k + 1 ≤ line.length := by have := HN.out; omega
            obtain ⟨v, hv⟩ : ∃ v, v = line.drop (k + 1) := ⟨_, rfl⟩
            have hsw := (HS.out.below HI.out.2.2).more HI.out.2.2.size
            obtain ⟨A2, e2, hsv, hn2⟩ := seg_from hsw.toS HN.out (k + 1) (by have := HN.out; omega) (by intro h; cases h)
            rw [← hv] at e2 hsv HFV
            obtain ⟨c2, hc2⟩ : ∃ c2, c2 = c - (k + 1) := ⟨_, rfl⟩
            rw [← hc2] at e2 hsv hn2
            obtain ⟨V, hV⟩ : ∃ V, V = v.length := ⟨_, rfl⟩
            have hVl : V ≤ 100000 := by have := HN.out; rw [hV, hv, List.length_drop]; omega
            rw [← hV] at e2 hsv
            have hsl := fun X => slice_from (some ⟨b, off, none⟩) N c (k + 1) X hlt
            simp only [e2] at hsl
            have ek : ((k + 1 : Nat) : Int) = (k : Int) + 1 := by omega
            rw [ek] at hsl
            obtain ⟨Av, cv, hve, -, -, hva⟩ := (show Seg wr wr.heap.size (.slice A2 v.length c2) (byteCells v) by rw [← hV]; exact hsv.seg fun _ h => h).open_bytes
            injection hve with hve1 hve2 hve3
            subst hve1 hve3
            rw [← hV] at hva
            have HVA := Lib.hid hva; have HSV := Lib.hid hsv; have HN2 := Lib.hid hn2; have HV := Lib.hid hV
            have HNMV : Hid (Seg wr wr.heap.size u4 (byteCells ((line.take k).map foldB))) := Lib.hid HI.out.1.seg
            obtain ⟨nm, hnm⟩ : ∃ nm, nm = (line.take k).map foldB := ⟨_, rfl⟩
            rw [← hnm] at HNMV HFV
            have hcs : (convert 22 9 u4).run Tryd.prog wr = .ok (.string ⟨nm.toArray⟩) wr := conv_seg HNMV.out
            have HCS := Lib.hid hcs
            clear hv hc2 hkl hsw e2 hsv hn2 hV ek hva hve2 hnm HNMV hcs
            go_wp2_with (go_at_call 45; refine (HFO.out _).mono ?_; rintro e w2 ⟨rfl, rfl⟩)
            go_loopw [6] (fun iv W => ∃ i : Nat, i ≤ V ∧ iv = .int .i64 i ∧ Hid ((v.take i).any crlf = false) ∧ W = w2) (fun iv _ => V - (intOf iv).toNat)
            case atStart => exact ⟨0, by omega, rfl, Lib.hid (by simp), rfl⟩
            case round =>
              obtain ⟨i, hi, rfl, HC, rfl⟩ := hrel
              by_cases hil : i < V
              · obtain ⟨b2, off2, z, rfl, hb2, hc3, hz, Hz⟩ := HVA.out.byte hil
                have hivl : i < v.length := by have := HV.out; omega
                have HCZ : Hid (crlf (v.getD i 0) = decide (z = 13 ∨ z = 10)) := Lib.hid (by rw [crlf_nat, Hz.out])
                have HIV := Lib.hid hivl
                clear hivl
                by_cases h13 : z = 13
                · have HF : Hid (R = -2) := Lib.hid (by
                    rw [HR.out]; unfold fieldI
                    rw [HFV.out, if_pos (any_hit HIV.out (by rw [HCZ.out]; exact decide_eq_true (.inl h13)))])
                  have g9 : ((z : Int) == 13) = true := by simp; omega
                  clear h13
                  go_wp2
                  go_ret
                  exact ⟨by rw [HF.out]; rfl, hBW⟩
                · have g9 : ((z : Int) == 13) = false := by simp; omega
                  by_cases h10 : z = 10
                  · have HF : Hid (R = -2) := Lib.hid (by
                      rw [HR.out]; unfold fieldI
                      rw [HFV.out, if_pos (any_hit HIV.out (by rw [HCZ.out]; exact decide_eq_true (.inr h10)))])
                    have g10 : ((z : Int) == 10) = true := by simp; omega
                    clear h13 h10
                    go_wp2
                    go_ret
                    exact ⟨by rw [HF.out]; rfl, hBW⟩
                  · have g10 : ((z : Int) == 10) = false := by simp; omega
                    have HC2 : Hid ((v.take (i + 1)).any crlf = false) := Lib.hid (any_one HIV.out HC.out (by rw [HCZ.out]; exact decide_eq_false (by omega)))
                    clear h13 h10
                    go_wp2
                    go_roundw
                    case rel => exact ⟨i + 1, by omega, by go_num, HC2, trivial⟩
                    case measure => simp [intOf]; omega
              · have HNC : Hid (v.any crlf = false) := Lib.hid (by
                  have h := HC.out
                  rwa [List.take_of_length_le (by have := HV.out; omega)] at h)
                have hcs := HCS.out
                by_cases hnc : nm = clen
                · have g11 : (nm == [99, 111, 110, 116, 101, 110, 116, 45, 108, 101, 110, 103, 116, 104]) = true := by rw [hnc]; rfl
                  have HFW : Hid (R = match (sizeV (trimB v)).map some with | none => -2 | some none => -1 | some (some n) => (n : Int)) := Lib.hid (by
                    rw [HR.out]; unfold fieldI
                    rw [HFV.out, HNC.out, if_neg (by decide), if_pos hnc])
                  clear hnc HFV
                  go_wp2
                  go_loopw [5] (fun sv W => ∃ (cur : List UInt8) (A3 : Option Addr) (n3 c3 : Nat), sv = .slice A3 n3 c3 ∧ n3 ≤ 100000 ∧ n3 ≤ c3 ∧ Hid (SegS (· < wr.heap.size) wr (.slice A3 n3 c3) (byteCells cur) ∧ n3 = cur.length ∧ (A3 = none → c3 = 0) ∧ trimL cur = trimL v) ∧ W = wr) (fun sv _ => lenV sv)
                  case atStart => exact ⟨v, A2, V, c2, rfl, hVl, (by
                    obtain ⟨A', c', e', h', -⟩ := HSV.out
                    injection e' with _ _ e'
                    rw [byteCells_length, ← HV.out] at h'
                    omega), Lib.hid ⟨HSV.out, HV.out, HN2.out, rfl⟩, rfl⟩
                  case round =>
                    obtain ⟨cur, A3, n3, c3, rfl, hn3, hnc3, HB, rfl⟩ := hrel
                    by_cases h03 : 0 < n3
                    · have HAT := Lib.hid (at_of HB.out.1 HB.out.2.1)
                      obtain ⟨b3, off3, z3, rfl, hb3, hc3', hz3, Hz3⟩ := HAT.out.byte h03
                      rw [Nat.add_zero] at hc3'
                      have HBL : Hid (blankB (cur.getD 0 0) = decide (z3 = 32 ∨ z3 = 9)) := Lib.hid (by rw [blank_nat, Hz3.out])
                      by_cases hq3 : z3 = 32 ∨ z3 = 9
                      · obtain ⟨A4, e4, hs4, hn4⟩ := seg_from HB.out.1 HB.out.2.1 1 (by omega) HB.out.2.2.1
                        have hl4 : (cur.drop 1).length = n3 - 1 := by rw [List.length_drop, ← HB.out.2.1]
                        rw [hl4] at e4 hs4
                        have hsl3 := fun X => slice_from (some ⟨b3, off3, none⟩) n3 c3 1 X (by omega)
                        simp only [e4] at hsl3
                        have HNX : Hid (SegS (· < wr.heap.size) wr (.slice A4 (n3 - 1) (c3 - 1)) (byteCells (cur.drop 1)) ∧ n3 - 1 = (cur.drop 1).length ∧ (A4 = none → c3 - 1 = 0) ∧ trimL (cur.drop 1) = trimL v) := Lib.hid ⟨hs4, hl4.symm, hn4, by rw [trimL_drop (by rw [HBL.out]; exact decide_eq_true hq3) (by have := HB.out.2.1; omega)]; exact HB.out.2.2.2⟩
                        have HE4 := Lib.hid e4; clear e4 hs4 hn4 hl4
                        by_cases g13 : z3 = 32
                        · have g12 : ((z3 : Int) == 32) = true := by simp; omega
                          clear hq3 g13
                          go_wp2
                          go_roundw
                          case rel => exact ⟨cur.drop 1, A4, n3 - 1, c3 - 1, by rw [← HE4.out]; unfold fromV; simp [Addr.add], by omega, by omega, HNX, trivial⟩
                          case measure => simp [lenV]; omega
                        · have g12 : ((z3 : Int) == 32) = false := by simp; omega
                          have g14 : ((z3 : Int) == 9) = true := by simp; omega
                          clear hq3 g13
                          go_wp2
                          go_roundw
                          case rel => exact ⟨cur.drop 1, A4, n3 - 1, c3 - 1, by rw [← HE4.out]; unfold fromV; simp [Addr.add], by omega, by omega, HNX, trivial⟩
                          case measure => simp [lenV]; omega
                      · have HSTOP : Hid (trimL cur = cur) := Lib.hid (trimL_stop (.inr (by rw [HBL.out]; exact decide_eq_false hq3)))
                        have g12 : ((z3 : Int) == 32) = false := by simp; omega
                        have g14 : ((z3 : Int) == 9) = false := by simp; omega
                        clear hq3
                        go_wp2
                        go_loopw [5] (fun sv W => ∃ (cur2 : List UInt8) (n4 : Nat), sv = .slice (some ⟨b3, off3, none⟩) n4 c3 ∧ n4 ≤ n3 ∧ Hid (SegS (· < wr.heap.size) wr (.slice (some ⟨b3, off3, none⟩) n4 c3) (byteCells cur2) ∧ n4 = cur2.length ∧ rtr cur2 = Frm.trimB v) ∧ W = wr) (fun sv _ => lenV sv)
                        case atStart => exact ⟨cur, n3, rfl, Nat.le_refl _, Lib.hid ⟨HB.out.1, HB.out.2.1, by rw [trimB_rtr, ← HB.out.2.2.2, HSTOP.out]⟩, rfl⟩
                        case round =>
                          obtain ⟨cur2, n4, rfl, hn4, HB4, rfl⟩ := hrel
                          cases n4 with
                          | zero =>
                            have HF : Hid (R = -2) := Lib.hid (by
                              have h1 : cur2 = [] := List.length_eq_zero_iff.1 HB4.out.2.1.symm
                              have h2 := HB4.out.2.2
                              rw [h1] at h2
                              rw [HFW.out, ← h2]; rfl)
                            go_wp2
                            go_ret
                            exact ⟨by rw [HF.out]; rfl, hBW⟩
                          | succ M =>
                            have HA4 := Lib.hid (at_of HB4.out.1 HB4.out.2.1)
                            obtain ⟨b4, off4, z4, he4, hb4, hc4, hz4, Hz4⟩ := HA4.out.byte (Nat.lt_succ_self M)
                            injection he4 with he4
                            injection he4 with he4 he5
                            subst he4 he5
                            have HBL : Hid (blankB (cur2.getD M 0) = decide (z4 = 32 ∨ z4 = 9)) := Lib.hid (by rw [blank_nat, Hz4.out])
                            have hM3 : M + 1 ≤ c3 := by omega
                            have hsl4 := fun X => slice_to (some ⟨b3, off3, none⟩) (M + 1) c3 M X (by omega)
                            by_cases hq4 : z4 = 32 ∨ z4 = 9
                            · have HNX : Hid (SegS (· < wr.heap.size) wr (.slice (some ⟨b3, off3, none⟩) M c3) (byteCells (cur2.take M)) ∧ M = (cur2.take M).length ∧ rtr (cur2.take M) = Frm.trimB v) := Lib.hid ⟨(seg_front HB4.out.1 HB4.out.2.1 M (by omega)).2, by rw [List.length_take, ← HB4.out.2.1]; omega, by rw [rtr_take HB4.out.2.1.symm (by rw [HBL.out]; exact decide_eq_true hq4)]; exact HB4.out.2.2⟩
                              by_cases g13 : z4 = 32
                              · have g12 : ((z4 : Int) == 32) = true := by simp; omega
                                clear hq4 g13
                                go_wp2
                                go_roundw
                                case rel => exact ⟨cur2.take M, M, rfl, by omega, HNX, trivial⟩
                                case measure => simp [lenV]
                              · have g12 : ((z4 : Int) == 32) = false := by simp; omega
                                have g14 : ((z4 : Int) == 9) = true := by simp; omega
                                clear hq4 g13
                                go_wp2
                                go_roundw
                                case rel => exact ⟨cur2.take M, M, rfl, by omega, HNX, trivial⟩
                                case measure => simp [lenV]
                            · have HTB : Hid (cur2 = Frm.trimB v) := Lib.hid (by
                                rw [← HB4.out.2.2, rtr_stop HB4.out.2.1.symm (by rw [HBL.out]; exact decide_eq_false hq4)])
                              have g12 : ((z4 : Int) == 32) = false := by simp; omega
                              have g14 : ((z4 : Int) == 9) = false := by simp; omega
                              have g17 : ¬ (((M + 1 : Nat) : Int)) < 1 := by omega
                              clear hq4
                              by_cases h6 : 6 < M + 1
                              · have HF : Hid (R = -2) := Lib.hid (by
                                  rw [HFW.out, ← HTB.out]; unfold sizeV
                                  rw [if_neg]
                                  · rfl
                                  · rintro ⟨-, h, -⟩; have := HB4.out.2.1; omega)
                                have g18 : (6 : Int) < ((M + 1 : Nat) : Int) := by omega
                                go_wp2
                                go_ret
                                exact ⟨by rw [HF.out]; rfl, hBW⟩
                              · have g18 : ¬ (6 : Int) < ((M + 1 : Nat) : Int) := by omega
                                go_wp2
                                go_loopw [7, 8] (fun nv iv W => ∃ k5 m5 : Nat, k5 ≤ M + 1 ∧ iv = .int .i64 k5 ∧ nv = .int .i64 m5 ∧ m5 < 1000000 ∧ Hid (m5 = numD (cur2.take k5) ∧ (cur2.take k5).all digB = true) ∧ W = wr) (fun _ iv _ => M + 1 - (intOf iv).toNat)
                                case atStart => exact ⟨0, 0, by omega, rfl, rfl, by omega, Lib.hid ⟨rfl, by simp⟩, rfl⟩
                                case round =>
                                  obtain ⟨k5, m5, hk5, rfl, rfl, hm6, HN5, rfl⟩ := hrel
                                  by_cases hlt5 : k5 < M + 1
                                  · obtain ⟨b5, off5, z5, he5, hb5, hc5, hz5, Hz5⟩ := HA4.out.byte hlt5
                                    injection he5 with he5
                                    injection he5 with he5 he6
                                    subst he5 he6
                                    have hl5 : k5 < cur2.length := by have := HB4.out.2.1; omega
                                    have HP := Lib.hid (digB_nat (cur2.getD k5 0))
                                    by_cases hq5 : 48 ≤ z5 ∧ z5 ≤ 57
                                    · have hd : digB (cur2.getD k5 0) = true := by rw [HP.out, Hz5.out]; exact decide_eq_true hq5
                                      have ht := all_take_succ HN5.out.2 hl5 hd
                                      have hn5 := numD_take hl5
                                      rw [← HN5.out.1, Hz5.out] at hn5
                                      have hb6 := numD_lt (k := k5 + 1) (by omega) ht
                                      have hp : 10 ^ (k5 + 1) ≤ 10 ^ 6 := Nat.pow_le_pow_right (by decide) (by omega)
                                      have hm7 : m5 * 10 + (z5 - 48) < 1000000 := by omega
                                      have HN6 : Hid (m5 * 10 + (z5 - 48) = numD (cur2.take (k5 + 1)) ∧ (cur2.take (k5 + 1)).all digB = true) := Lib.hid ⟨hn5.symm, ht⟩
                                      obtain ⟨h48, h57⟩ := hq5
                                      have g15 : ¬ (z5 : Int) < 48 := by omega
                                      have g16 : ¬ (57 : Int) < (z5 : Int) := by omega
                                      clear ht hn5 hb6 hp hd HN5 hl5
                                      go_wp2
                                      go_roundw
                                      case rel => exact ⟨k5 + 1, m5 * 10 + (z5 - 48), by omega, by go_num, by go_num, hm7, HN6, trivial⟩
                                      case measure => simp [intOf]; omega
                                    · have hd : digB (cur2.getD k5 0) = false := by rw [HP.out, Hz5.out]; exact decide_eq_false hq5
                                      have HF : Hid (R = -2) := Lib.hid (by
                                        rw [HFW.out, ← HTB.out]; unfold sizeV
                                        rw [if_neg]
                                        · rfl
                                        · rintro ⟨-, -, h⟩; rw [all_stop hl5 hd] at h; exact absurd h (by decide))
                                      clear hd hl5
                                      by_cases g15 : (z5 : Int) < 48
                                      · clear hq5
                                        go_wp2
                                        go_ret
                                        exact ⟨by rw [HF.out]; rfl, hBW⟩
                                      · have g16 : (57 : Int) < (z5 : Int) := by omega
                                        clear hq5
                                        go_wp2
                                        go_ret
                                        exact ⟨by rw [HF.out]; rfl, hBW⟩
                                  · have HF : Hid (R = (m5 : Int)) := Lib.hid (by
                                      have h1 := HN5.out.1; have h2 := HN5.out.2
                                      rw [List.take_of_length_le (by have := HB4.out.2.1; omega)] at h1 h2
                                      rw [HFW.out, ← HTB.out]; unfold sizeV
                                      rw [if_pos ⟨by have := HB4.out.2.1; omega, by have := HB4.out.2.1; omega, h2⟩, h1]; rfl)
                                    go_wp2
                                    go_ret
                                    exact ⟨by rw [HF.out]; rfl, hBW⟩
                    · have hn0 : n3 = 0 := by omega
                      have HF : Hid (R = -2) := Lib.hid (by
                        have h1 : cur = [] := List.length_eq_zero_iff.1 (by rw [← HB.out.2.1]; exact hn0)
                        have h2 := HB.out.2.2.2
                        rw [h1] at h2
                        rw [HFW.out, trimB_rtr, ← h2]; rfl)
                      subst hn0
                      clear h03
                      go_wp2
                      go_loopw [5] (fun sv W => sv = .slice A3 0 c3 ∧ W = wr) (fun sv _ => lenV sv)
                      case atStart => exact ⟨rfl, rfl⟩
                      case round =>
                        obtain ⟨rfl, rfl⟩ := hrel
                        go_wp2
                        go_ret
                        exact ⟨by rw [HF.out]; rfl, hBW⟩
                · have g11 : (nm == [99, 111, 110, 116, 101, 110, 116, 45, 108, 101, 110, 103, 116, 104]) = false := by rw [beq_eq_false_iff_ne]; exact hnc
                  have HF : Hid (R = -1) := Lib.hid (by
                    rw [HR.out]; unfold fieldI
                    rw [HFV.out, HNC.out, if_neg (by decide), if_neg hnc])
                  clear hnc HFV
                  go_wp2
                  go_ret
                  exact ⟨by rw [HF.out]; rfl, hBW⟩
        · have HF : Hid (R = -2) := Lib.hid (by
            rw [HR.out]
            exact field_not HI.out.2.1 (by have := HN.out; omega) HNB.out (by rw [Hx.out]; exact hx58))
          have g6 : ((x : Int) != 58) = true := by simp; omega
          clear hx58
          by_cases hk0 : k = 0
          · have g8 : ((k : Int) == 0) = true := by simp; omega
            clear hk0
            go_wp2_with (go_at_call 45; refine (HFO.out _).mono ?_; rintro e w2 ⟨rfl, rfl⟩)
            go_ret
            exact ⟨by rw [HF.out]; rfl, hBW⟩
          · have g8 : ((k : Int) == 0) = false := by simp; omega
            clear hk0
            go_wp2_with (go_at_call 45; refine (HFO.out _).mono ?_; rintro e w2 ⟨rfl, rfl⟩)
            go_ret
            exact ⟨by rw [HF.out]; rfl, hBW⟩
    · have hkN : k = N := by omega
      have HF : Hid (R = -2) := Lib.hid (by
        rw [HR.out]
        refine field_all ?_
        have h := HI.out.2.1
        rwa [hkN, HN.out, List.take_length] at h)
      have hBW : Hid (Below w.heap.size w wr) := Lib.hid HI.out.2.2
      have g7 : ((k : Int) == (N : Int)) = true := by simp; omega
      clear hkN
      by_cases hk0 : k = 0
      · have g8 : ((k : Int) == 0) = true := by simp; omega
        clear hk0
        go_wp2
        go_ret
        exact ⟨by rw [HF.out]; rfl, hBW⟩
      · have g8 : ((k : Int) == 0) = false := by simp; omega
        clear hk0
        go_wp2
        go_ret
        exact ⟨by rw [HF.out]; rfl, hBW⟩
end Go.Proofs.YtffblcefnckacaaDoor
