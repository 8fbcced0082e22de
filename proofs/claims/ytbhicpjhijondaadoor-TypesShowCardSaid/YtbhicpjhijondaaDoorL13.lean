/- The reference's Show of a number; wrapped. -/
import Derived.Test.YtbhicpjhijondaaDoorTE
import Derived.Test.YtbhicpjhijondaaDoorL12
namespace Go.Proofs.YtbhicpjhijondaaDoor
open Go.RowKit Go.Lib Go.Vfs Go.Par Go.Typ Go.Shelf
set_option linter.unusedVariables false
set_option linter.unusedSimpArgs false

theorem byteEb : Elem Tryd.prog 47 5 (.int .u8 0) := elem_of (b := 1) Tryd.underlying47 (by kernel_rfl) (by decide) rfl
theorem byteCells_app (a b : List UInt8) : byteCells (a ++ b) = byteCells a ++ byteCells b := by simp [byteCells]
theorem conv_segS {w : World} {B : Nat} {v : Value} {l : List UInt8} (h : Seg w B v (Lib.byteCells l)) : (convert 47 9 v).run Tryd.prog w = .ok (.string ⟨l.toArray⟩) w := by
  obtain ⟨A, c, rfl, hc, hm, hat⟩ := h
  rw [Lib.byteCells_length] at hat ⊢
  rcases A with _ | a
  · have h0 : l.length = 0 := by
      rcases Nat.eq_zero_or_pos l.length with h | h
      · exact h
      · obtain ⟨_, _, e, _⟩ := hat h; cases e
    have : l = [] := List.eq_nil_of_length_eq_zero h0
    subst this
    rw [List.length_nil, run_convert_bytes_string _ 47 9 5 none 0 c Tryd.underlying47 Tryd.underlying5 Tryd.underlying9]
    rfl
  · refine run_convert_bytes_back (P := Tryd.prog) w 47 9 5 a c l Tryd.underlying47 Tryd.underlying5 Tryd.underlying9 (fun j hj => ?_)
    obtain ⟨b, off, e, _, hcell⟩ := hat (by omega)
    cases e
    rw [add_addr, hcell j hj]
    simp [Lib.byteCells, hj]

set_option maxRecDepth 20000 in
set_option maxHeartbeats 400000 in
theorem r0show_any (n : Nat) (w : World) (hn : n ≤ 100000000) : Calls Tryd.prog 93 #[.int .i64 (n : Int)] w fun e w' => e = .returned (.string ⟨(decDigits n).toArray⟩) ∧ Hid (Below w.heap.size w w') := by
  by_cases h0 : n = 0
  · subst h0
    go_enter Tryd.func93, Tryd.ntmps93
    go_wp2
    go_ret
    exact ⟨by rw [decDigits, dif_pos (by omega)]; rfl, Lib.hid (Below.refl _ _)⟩
  · have g1 : ((n : Int) == 0) = false := by simpa using h0
    have g2 : ¬ (n : Int) < 0 := by omega
    have HD : Hid (∃ D, D = decDigits n) := Lib.hid ⟨_, rfl⟩
    go_enter Tryd.func93, Tryd.ntmps93
    go_wp2
    go_loopw [0, 3, 5, 6] (fun v out _ _ wr => ∃ (u : Nat) (xs : List UInt8), u ≤ n ∧ v = .int .i64 u ∧ xs.length ≤ n - u ∧ Hid (Par.Own wr w.heap.size 5 out (byteCells xs) ∧ Below w.heap.size w wr ∧ (if u = 0 then xs else decDigits u ++ xs) = decDigits n)) (fun v _ _ _ _ => (RowKit.intOf v).toNat)
    case atStart => exact ⟨n, [], by omega, rfl, by simp, Lib.hid ⟨Par.Own.new w _ 5 #[] [] rfl (Nat.le_refl _) (by simp), (Below.refl _ _).alloc (Nat.le_refl _) _, by rw [if_neg h0]; simp⟩⟩
    case round =>
      obtain ⟨u, xs, hu, rfl, hxs, HI⟩ := hrel
      by_cases hu0 : u = 0
      · subst hu0
        have hxs2 : xs = decDigits n := by have h := HI.out.2.2; rw [if_pos rfl] at h; exact h
        have hcv : (convert 47 9 u3).run Tryd.prog wr = .ok (.string ⟨(decDigits n).toArray⟩) wr := by
          rw [← hxs2]; exact conv_segS HI.out.1.seg
        clear hxs2
        go_wp2
        go_ret
        exact ⟨rfl, Lib.hid HI.out.2.1⟩
      · have g3 : ((u : Int) != 0) = true := by simpa using hu0
        obtain ⟨dg, hde⟩ : ∃ dg : UInt8, dg = UInt8.ofNat (48 + u % 10) := ⟨_, rfl⟩
        have hdg : dg.toNat = 48 + u % 10 := by
          rw [hde, UInt8.toNat_ofNat']; omega
        have HDE := Lib.hid hde
        clear hde
        have hcell : (#[Value.int .u8 (48 + (u : Int) % 10)] : Array Value) = (byteCells [dg]).toArray := by
          simp only [byteCells, List.map_cons, List.map_nil, hdg]
          congr 3
        have hownb := Par.Own.new wr w.heap.size 5 #[Value.int .u8 (48 + (u : Int) % 10)] (byteCells [dg]) hcell HI.out.2.1.size (by simp [byteCells, maxLen])
        have hso := (HI.out.1.alloc (.cells #[Value.int .u8 (48 + (u : Int) % 10)] 5)).seg
        have hsz := HI.out.2.1.size
        have HOB := Lib.hid hownb; have HSO := Lib.hid hso
        clear hdg hcell hownb hso
        go_wp2_with (at_builtin; refine wpList_app _ rfl _ _ _ rfl w.heap.size 5 _ byteEb _ _ rfl HOB.out _ _ _ rfl HSO.out (one_bytes _) ?k1 ?k2 ?_)
        case k1 => rw [byteCells_length, byteCells_length]; simp only [List.length_cons, List.length_nil]; omega
        case k2 => first | omega | (simp; omega)
        intro v5 w5 hown5 hg5 hat5
        have HN : Hid (Par.Own w5 w.heap.size 5 v5 (byteCells (dg :: xs)) ∧ Below w.heap.size w w5 ∧ (if u / 10 = 0 then (dg :: xs) else decDigits (u / 10) ++ (dg :: xs)) = decDigits n) := Lib.hid (by
          refine ⟨by rw [← List.singleton_append, byteCells_app]; exact hown5, ?_, ?_⟩
          · have hb := HI.out.2.1.alloc HI.out.2.1.size (.cells #[Value.int .u8 (48 + (u : Int) % 10)] 5)
            exact hb.grown hg5 (by simp; omega) (fun g e => (HOB.out.lt g e).1)
          · have h := HI.out.2.2
            rw [if_neg hu0] at h
            rw [← h]
            by_cases h10 : u < 10
            · have hd : u / 10 = 0 := by omega
              rw [if_pos hd, decDigits, dif_pos h10, HDE.out, show u % 10 = u by omega]; rfl
            · have hd : u / 10 ≠ 0 := by omega
              rw [if_neg hd]
              conv => rhs; rw [decDigits, dif_neg h10]
              rw [HDE.out, List.append_assoc]; rfl)
        clear hown5 hg5 hat5
        go_wp2
        go_roundw
        case rel => exact ⟨u / 10, _, by omega, by go_num, by simp only [List.length_cons]; omega, HN⟩
        case measure => simp [RowKit.intOf]; omega

/-- the words of a type, told by the reference. -/
def ShowC (T : Ty) : Prop := (sayT T).length ≤ 1000000000 → ∀ (v : Value) (W : World), TyAt (· < W.heap.size) W v T →
  Calls Tryd.prog 66 #[v] W fun e w' => e = .returned (.string ⟨(sayT T).toArray⟩) ∧ Below W.heap.size W w'
theorem nd_leS : ∀ (k u : Nat), u < 10 ^ (k + 1) → nDigits u ≤ k + 1
  | 0, u, h => by rw [nDigits_small (by omega)]; omega
  | k + 1, u, h => by
    by_cases h10 : u < 10
    · rw [nDigits_small h10]; omega
    · rw [nDigits_big h10]
      have := nd_leS k (u / 10) (by rw [Nat.pow_succ] at h; omega)
      omega
theorem str_app (a b : List UInt8) : (⟨a.toArray⟩ : ByteArray) ++ ⟨b.toArray⟩ = ⟨(a ++ b).toArray⟩ := by
  apply ByteArray.ext
  rw [ByteArray.data_append]
  simp
theorem str_data (s : ByteArray) : s = ⟨s.data.toList.toArray⟩ := by
  apply ByteArray.ext
  simp
set_option maxRecDepth 20000 in
set_option maxHeartbeats 1000000 in
theorem wrapped_any (T : Ty) (hS : ShowC T) (yes : Bool) (hl : (sayT T).length ≤ 1000000000) (v : Value) (w : World) (hT : TyAt (· < w.heap.size) w v T) :
    Calls Tryd.prog 94 #[v, .bool yes] w fun e w' => e = .returned (.string ⟨(wrapB yes (sayT T)).toArray⟩) ∧ Below w.heap.size w w' := by
  obtain ⟨A, c, rfl, -⟩ := hT.form
  obtain ⟨W1, hW1⟩ : ∃ W1, W1 = w.alloc (.cells #[.int .i64 T.kind, .int .i64 T.num, .string T.name, .slice A T.args.length c] 24) := ⟨_, rfl⟩
  have hbx : W1.heap[w.heap.size]? = some (.cells #[.int .i64 T.kind, .int .i64 T.num, .string T.name, .slice A T.args.length c] 24 (0, 0)) := by rw [hW1]; exact heap_alloc_new _ _
  have hb1 : Below w.heap.size w W1 := by rw [hW1]; exact (Below.refl _ _).alloc (Nat.le_refl _) _
  have hca := hS hl _ W1 (hT.blw hb1)
  have HB1 := Lib.hid hb1
  obtain ⟨y0, y1, y2, y3⟩ := box4 hbx
  rw [hW1] at y0 y1 y2 y3
  obtain ⟨s, hs⟩ : ∃ s : ByteArray, s = ⟨(sayT T).toArray⟩ := ⟨_, rfl⟩
  rw [← hs] at hca
  have hsz : s.size ≤ 1000000000 := by rw [hs]; show (sayT T).toArray.size ≤ _; simpa using hl
  have HSS := Lib.hid hs
  unfold tyV at hca ⊢
  have HCA := Lib.hid hca
  clear hT hbx hb1 hca hs hl
  cases yes with
  | true =>
    go_enter Tryd.func94, Tryd.ntmps94
    go_wp2_with fail
    rw [← hW1]
    clear hW1 y0 y1 y2 y3
    refine HCA.out.mono ?_
    rintro e w2 ⟨rfl, hb2⟩
    have HB2 := Lib.hid (HB1.out.trans (hb2.mono HB1.out.size))
    clear hb2
    go_wp2
    go_ret
    refine ⟨?_, HB2.out⟩
    rw [HSS.out]
    show Ending.returned (.string ((⟨([40] : List UInt8).toArray⟩ : ByteArray) ++ ⟨(sayT T).toArray⟩ ++ ⟨([41] : List UInt8).toArray⟩)) = _
    rw [str_app, str_app]
    rfl
  | false =>
    go_enter Tryd.func94, Tryd.ntmps94
    go_wp2_with fail
    rw [← hW1]
    clear hW1 y0 y1 y2 y3
    refine HCA.out.mono ?_
    rintro e w2 ⟨rfl, hb2⟩
    have HB2 := Lib.hid (HB1.out.trans (hb2.mono HB1.out.size))
    clear hb2
    go_wp2
    go_ret
    exact ⟨by rw [HSS.out]; rfl, HB2.out⟩
set_option maxRecDepth 20000 in
set_option maxHeartbeats 1000000 in
theorem show_var (T : Ty) (h1 : T.kind = 1) (hn0 : 0 ≤ T.num) (hn1 : T.num < 1073741824) : ShowC T := by
  intro _ v w hT
  obtain ⟨A, c, rfl, hc, hm, hn⟩ := hT.form
  obtain ⟨W1, hW1⟩ : ∃ W1, W1 = w.alloc (.cells #[.int .i64 T.kind, .int .i64 T.num, .string T.name, .slice A T.args.length c] 24) := ⟨_, rfl⟩
  have hbx : W1.heap[w.heap.size]? = some (.cells #[.int .i64 T.kind, .int .i64 T.num, .string T.name, .slice A T.args.length c] 24 (0, 0)) := by rw [hW1]; exact heap_alloc_new _ _
  have hb1 : Below w.heap.size w W1 := by rw [hW1]; exact (Below.refl _ _).alloc (Nat.le_refl _) _
  have hz1 : W1.heap.size = w.heap.size + 1 := by rw [hW1]; simp
  have HB1 := Lib.hid hb1
  have HV := Lib.hid (sayT_var h1)
  rw [h1] at hbx hW1
  have HBX := Lib.hid hbx
  obtain ⟨y0, y1, y2, y3⟩ := box4 hbx
  rw [hW1] at y0 y1 y2 y3
  obtain ⟨c8, hc8⟩ : ∃ c8 : UInt8, c8 = UInt8.ofNat (97 + T.num.toNat % 26) := ⟨_, rfl⟩
  have hx8 : (97 + T.num % 26 : Int) = (c8.toNat : Int) := by
    rw [hc8]
    simp
    omega
  have hcv : (convert 47 9 (.slice (some ⟨w.heap.size + 1, 0, none⟩) 1 1)).run Tryd.prog (W1.alloc (.cells #[.int .u8 (97 + T.num % 26)] 5)) = .ok (.string ⟨([c8] : List UInt8).toArray⟩) (W1.alloc (.cells #[.int .u8 (97 + T.num % 26)] 5)) := by
    have hsg := Seg.new W1 5 #[.int .u8 (97 + T.num % 26)] (byteCells [c8]) (by rw [hx8]; rfl) (by simp [byteCells, maxLen])
    have := conv_segS hsg
    rw [hz1] at this
    exact this
  have HB2 : Hid (Below w.heap.size w (W1.alloc (.cells #[.int .u8 (97 + T.num % 26)] 5))) := Lib.hid (hb1.alloc (by omega) _)
  have hV : sayT T = [39, c8] ++ (if 26 ≤ T.num then Lib.itoa (T.num / 26) else []) := by rw [HV.out, hc8]; rfl
  have HVV := Lib.hid hV
  obtain ⟨b0, b1, b2, b3⟩ := box4 ((Below.heap_alloc W1 (.cells #[.int .u8 (97 + T.num % 26)] 5) w.heap.size (by omega)).trans hbx)
  rw [hW1] at hcv b0 b1 b2 b3
  have HX8 := Lib.hid hx8
  clear hT hb1 hc hm hn hbx hz1 hV hc8 hx8
  unfold tyV
  rw [h1]
  by_cases h26 : 26 ≤ T.num
  · have hq : 0 ≤ T.num / 26 ∧ T.num / 26 ≤ 100000000 := by omega
    obtain ⟨q, hq2⟩ : ∃ q : Nat, T.num / 26 = (q : Int) := ⟨(T.num / 26).toNat, by omega⟩
    have hitoa : Lib.itoa (T.num / 26) = Lib.decDigits q := by
      rw [hq2]
      unfold Lib.itoa
      rw [if_neg (by omega)]
      rfl
    have HSH := fun W => Lib.hid (r0show_any q W (by omega))
    have HV2 : Hid (sayT T = [39] ++ [c8] ++ Lib.decDigits q) := Lib.hid (by rw [HVV.out, if_pos h26, hitoa]; rfl)
    have hdl : (⟨(Lib.decDigits q).toArray⟩ : ByteArray).size ≤ 1000000 := by
      show (Lib.decDigits q).toArray.size ≤ _
      rw [List.size_toArray, decDigits_length]
      have := nd_leS 9 q (by omega)
      omega
    obtain ⟨E, hE⟩ : ∃ E : ByteArray, E = ⟨(Lib.decDigits q).toArray⟩ := ⟨_, rfl⟩
    rw [← hE] at HSH hdl
    have HEE := Lib.hid hE
    clear hq hitoa HVV HV hE
    go_enter Tryd.func66, Tryd.ntmps66
    go_wp2_with fail
    generalize hs2 : ((⟨#[39]⟩ : ByteArray) ++ ⟨#[c8]⟩) = s2
    have hs3 : s2.size ≤ 2 := by rw [← hs2, ByteArray.size_append]; exact Nat.le_refl _
    have HS2 := Lib.hid hs2.symm
    clear hs2
    rw [hq2]
    refine (HSH _).out.mono ?_
    rintro e w4 ⟨rfl, HB4⟩
    go_wp2
    go_ret
    rw [← hW1] at HB4
    refine ⟨?_, HB2.out.trans (HB4.out.mono HB2.out.size)⟩
    rw [HS2.out, HEE.out, HV2.out]
    show Ending.returned (.string ((⟨([39] : List UInt8).toArray⟩ : ByteArray) ++ ⟨([c8] : List UInt8).toArray⟩ ++ ⟨(Lib.decDigits q).toArray⟩)) = _
    rw [str_app, str_app]
  · have HV2 : Hid (sayT T = [39] ++ [c8]) := Lib.hid (by rw [HVV.out, if_neg h26]; rfl)
    clear HVV HV
    go_enter Tryd.func66, Tryd.ntmps66
    go_wp2
    go_ret
    rw [← hW1]
    refine ⟨?_, HB2.out⟩
    rw [HV2.out]
    show Ending.returned (.string ((⟨([39] : List UInt8).toArray⟩ : ByteArray) ++ ⟨([c8] : List UInt8).toArray⟩)) = _
    rw [str_app]
end Go.Proofs.YtbhicpjhijondaaDoor
