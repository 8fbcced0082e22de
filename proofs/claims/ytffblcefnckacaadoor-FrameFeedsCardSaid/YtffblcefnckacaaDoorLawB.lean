/- Spare, Show, the document's Encode. -/
import Derived.Test.YtffblcefnckacaaDoorLawA
namespace Go.Proofs.YtffblcefnckacaaDoor
open Go.RowKit Go.Lib Go.Vfs Go.Par Go.Frm Go.Shelf
set_option linter.unusedVariables false
set_option linter.unusedSimpArgs false

def mark (k : Nat) : UInt8 := UInt8.ofNat (201 + k)
def marks (k : Nat) : List UInt8 := (List.range k).map mark
theorem marks_succ (k : Nat) : marks (k + 1) = marks k ++ [mark k] := by simp [marks, List.range_succ]
theorem marks_len (k : Nat) : (marks k).length = k := by simp [marks]

set_option maxHeartbeats 400000 in
theorem spare_any (v : Value) (l : List UInt8) (w : World) (hsg : Seg w w.heap.size v (byteCells l)) (hl : l.length ≤ 1000000) :
    Calls Tryd.prog 11 #[v] w fun e w' => ∃ A c, e = .returned (.slice A (l.length + 8) c) ∧ Hid (Par.Own w' w.heap.size 5 (.slice A (l.length + 8) c) (byteCells (l ++ marks 8)) ∧ Below w.heap.size w w') := by
  go_enter Tryd.func11, Tryd.ntmps11
  go_wp2_with (go_at_call 15; refine (copyBytes_any v l w.heap.size w hsg (Nat.le_refl _) hl).mono ?_; rintro e w1 ⟨u, rfl, hown1, hb1⟩)
  clear hsg
  go_loopw [3, 4] (fun u i wr => ∃ k : Nat, k ≤ 8 ∧ i = .int .i64 k ∧ Par.Own wr w.heap.size 5 u (byteCells (l ++ marks k)) ∧ Below w.heap.size w wr) (fun _ i _ => 8 - (intOf i).toNat)
  case atStart => exact ⟨0, by omega, rfl, by simpa [marks] using hown1, hb1⟩
  case round =>
    obtain ⟨k, hk, rfl, hown, hbw⟩ := hrel
    have hsz := hbw.size
    by_cases hlt : k < 8
    · have hki : (k : Int) < 8 := by omega
      have hown3 := hown.alloc (.cells #[.int .u8 (201 + k)] 5)
      have hsg := Seg.new wr 5 #[.int .u8 (201 + k)] (byteCells [mark k]) (by simp [byteCells, mark]; omega) (by simp [byteCells, maxLen])
      go_wp2_with (at_builtin; refine wpList_app _ rfl _ _ _ rfl w.heap.size 5 _ byteE _ _ rfl hown3 _ _ (byteCells [mark k]) rfl hsg (one_bytes _) ?c1 ?c2 ?_)
      case c1 => rw [byteCells_length, byteCells_length]; simp [marks]; omega
      case c2 => first | omega | (simp; done) | (simp; omega)
      intro v3 w3 hown4 hg3 hat3
      have hb3 : Below w.heap.size w w3 := below_app (hbw.alloc hsz _) hown3 hg3 (by simp; omega)
      go_wp2
      go_roundw
      case rel => exact ⟨k + 1, by omega, by go_num, by rw [marks_succ, ← List.append_assoc, byteCells_append]; exact hown4, hb3⟩
      case measure => simp [intOf]; omega
    · have hk8 : k = 8 := by omega
      subst hk8
      go_wp2
      go_ret
      obtain ⟨A, c, e⟩ := hown.form
      rw [byteCells_length, List.length_append, marks_len] at e
      refine ⟨A, c, ?_, Lib.hid ⟨by rw [← e]; exact hown, hbw⟩⟩
      show Ending.returned u3 = _
      rw [e]

set_option maxRecDepth 20000 in
set_option maxHeartbeats 400000 in
theorem show_any (n : Nat) (w : World) (hn : n ≤ 1000000) : Calls Tryd.prog 21 #[.int .i64 (n : Int)] w fun e w' => e = .returned (.string ⟨(decDigits n).toArray⟩) ∧ Hid (Below w.heap.size w w') := by
  by_cases h0 : n = 0
  · subst h0
    go_enter Tryd.func21, Tryd.ntmps21
    go_wp2
    go_ret
    exact ⟨by rw [decDigits, dif_pos (by omega)]; rfl, Lib.hid (Below.refl _ _)⟩
  · have g1 : ((n : Int) == 0) = false := by simpa using h0
    have g2 : ¬ (n : Int) < 0 := by omega
    have HD : Hid (∃ D, D = decDigits n) := Lib.hid ⟨_, rfl⟩
    go_enter Tryd.func21, Tryd.ntmps21
    go_wp2
    go_loopw [0, 3, 5, 6] (fun v out _ _ wr => ∃ (u : Nat) (xs : List UInt8), u ≤ n ∧ v = .int .i64 u ∧ xs.length ≤ n - u ∧ Hid (Par.Own wr w.heap.size 5 out (byteCells xs) ∧ Below w.heap.size w wr ∧ (if u = 0 then xs else decDigits u ++ xs) = decDigits n)) (fun v _ _ _ _ => (intOf v).toNat)
    case atStart => exact ⟨n, [], by omega, rfl, by simp, Lib.hid ⟨Par.Own.new w _ 5 #[] [] rfl (Nat.le_refl _) (by simp), (Below.refl _ _).alloc (Nat.le_refl _) _, by rw [if_neg h0]; simp⟩⟩
    case round =>
      obtain ⟨u, xs, hu, rfl, hxs, HI⟩ := hrel
      by_cases hu0 : u = 0
      · subst hu0
        have hxs2 : xs = decDigits n := by have h := HI.out.2.2; rw [if_pos rfl] at h; exact h
        have hcv : (convert 22 9 u3).run Tryd.prog wr = .ok (.string ⟨(decDigits n).toArray⟩) wr := by
          rw [← hxs2]; exact conv_seg HI.out.1.seg
        clear hxs2
        go_wp2
        go_ret
        exact ⟨rfl, Lib.hid HI.out.2.1⟩
      · have g3 : ((u : Int) != 0) = true := by simpa using hu0
        obtain ⟨dg, hde⟩ : ∃ dg : UInt8, dg = UInt8.ofNat (48 + u % 10) := ⟨_, rfl⟩
        have hdg : dg.toNat = 48 + u % 10 := by
          rw [hde, UInt8.toNat_ofNat']; omega
        have HDE := Lib.hid hde
        clear hde
        have hcell : (#[Value.int .u8 (48 + (u : Int) % 10)] : Array Value) = (byteCells [dg]).toArray := by
          simp only [byteCells, List.map_cons, List.map_nil, hdg]
          congr 3
        have hownb := Par.Own.new wr w.heap.size 5 #[Value.int .u8 (48 + (u : Int) % 10)] (byteCells [dg]) hcell HI.out.2.1.size (by simp [byteCells, maxLen])
        have hso := (HI.out.1.alloc (.cells #[Value.int .u8 (48 + (u : Int) % 10)] 5)).seg
        have hsz := HI.out.2.1.size
        have HOB := Lib.hid hownb; have HSO := Lib.hid hso
        clear hdg hcell hownb hso
        go_wp2_with (at_builtin; refine wpList_app _ rfl _ _ _ rfl w.heap.size 5 _ byteE _ _ rfl HOB.out _ _ _ rfl HSO.out (one_bytes _) ?k1 ?k2 ?_)
        case k1 => rw [byteCells_length, byteCells_length]; simp only [List.length_cons, List.length_nil]; omega
        case k2 => first | omega | (simp; omega)
        intro v5 w5 hown5 hg5 hat5
        have HN : Hid (Par.Own w5 w.heap.size 5 v5 (byteCells (dg :: xs)) ∧ Below w.heap.size w w5 ∧ (if u / 10 = 0 then (dg :: xs) else decDigits (u / 10) ++ (dg :: xs)) = decDigits n) := Lib.hid (by
          refine ⟨by rw [← List.singleton_append, byteCells_append]; exact hown5, ?_, ?_⟩
          · have hb := HI.out.2.1.alloc HI.out.2.1.size (.cells #[Value.int .u8 (48 + (u : Int) % 10)] 5)
            exact hb.grown hg5 (by simp; omega) (fun g e => (HOB.out.lt g e).1)
          · have h := HI.out.2.2
            rw [if_neg hu0] at h
            rw [← h]
            by_cases h10 : u < 10
            · have hd : u / 10 = 0 := by omega
              rw [if_pos hd, decDigits, dif_pos h10, HDE.out, show u % 10 = u by omega]; rfl
            · have hd : u / 10 ≠ 0 := by omega
              rw [if_neg hd]
              conv => rhs; rw [decDigits, dif_neg h10]
              rw [HDE.out, List.append_assoc]; rfl)
        clear hown5 hg5 hat5
        go_wp2
        go_roundw
        case rel => exact ⟨u / 10, _, by omega, by go_num, by simp only [List.length_cons]; omega, HN⟩
        case measure => simp [intOf]; omega
set_option maxRecDepth 20000 in
set_option maxHeartbeats 400000 in
theorem encode_bad (A : Option Addr) (c : Nat) (l : List UInt8) (w : World) (hl : 65536 < l.length) :
    Calls Tryd.prog 12 #[.slice A l.length c] w fun e w' => e = .returned (.tuple #[.slice none 0 0, .int .i64 31]) ∧ w' = w := by
  have g1 : (65536 : Int) < (l.length : Int) := by omega
  go_enter Tryd.func12, Tryd.ntmps12
  go_wp2
  go_ret2
  exact ⟨rfl, rfl⟩
set_option maxRecDepth 20000 in
set_option maxHeartbeats 400000 in
theorem rencode_bad (A : Option Addr) (c : Nat) (l : List UInt8) (w : World) (hl : 65536 < l.length) :
    Calls Tryd.prog 13 #[.slice A l.length c] w fun e w' => e = .returned (.tuple #[.slice none 0 0, .int .i64 31]) ∧ w' = w := by
  have g1 : (65536 : Int) < (l.length : Int) := by omega
  go_enter Tryd.func13, Tryd.ntmps13
  go_wp2
  go_ret2
  exact ⟨rfl, rfl⟩
set_option maxRecDepth 20000 in
set_option maxHeartbeats 1000000 in
/-- the document's Encode. -/
theorem rencode_any (v : Value) (l : List UInt8) (w : World) (hs : Seg w w.heap.size v (byteCells l)) (hl : l.length ≤ 65536) :
    Calls Tryd.prog 13 #[v] w fun e w' => ∃ A c, e = .returned (.tuple #[.slice A (enc l).length c, .int .i64 0]) ∧ Hid (SegS (fun k => w.heap.size ≤ k ∧ k < w'.heap.size) w' (.slice A (enc l).length c) (byteCells (enc l)) ∧ Below w.heap.size w w') := by
  obtain ⟨A, c, rfl, hc, hm, -⟩ := hs.open_bytes
  have hit := show_any l.length w (by omega)
  have HS := Lib.hid hs
  obtain ⟨E, hE⟩ : ∃ E : ByteArray, E = ⟨(decDigits l.length).toArray⟩ := ⟨_, rfl⟩
  rw [← hE] at hit
  obtain ⟨k5, hk5⟩ : ∃ k5, k5 = E.size := ⟨_, rfl⟩
  have hk6 : k5 ≤ 6 := by
    have h := decDigits_length l.length
    have h2 := nd_le 5 l.length (by omega)
    rw [hk5, hE]
    show (decDigits l.length).toArray.size ≤ 6
    simp only [List.size_toArray]
    omega
  have f0 : E.size = k5 := hk5.symm
  have f1 : ((⟨#[67, 111, 110, 116, 101, 110, 116, 45, 76, 101, 110, 103, 116, 104, 58, 32]⟩ : ByteArray) ++ E).size = 16 + k5 := by rw [ByteArray.size_append, f0]; rfl
  obtain ⟨S, hS⟩ : ∃ S, S = (⟨#[67, 111, 110, 116, 101, 110, 116, 45, 76, 101, 110, 103, 116, 104, 58, 32]⟩ : ByteArray) ++ E ++ (⟨#[13, 10, 13, 10]⟩ : ByteArray) := ⟨_, rfl⟩
  have hSs : S.size = 20 + k5 := by rw [hS, ByteArray.size_append, f1]; show 16 + k5 + 4 = _; omega
  have hSl : S.data.toList ++ l = enc l := by
    rw [hS, hE]
    simp [ByteArray.data_append, enc, clenLine, clenC]
  have HI := Lib.hid hit
  have HSL := Lib.hid hSl
  clear hit hs hE hk5 hSl
  have g1 : ¬ (65536 : Int) < (l.length : Int) := by omega
  go_enter Tryd.func13, Tryd.ntmps13
  go_wp2_with (go_at_call 21; refine HI.out.mono ?_; rintro e w1 ⟨rfl, HB1⟩)
  obtain ⟨cap, cur, fz, w2, hr, hg, hfz, hcs, hn, hcm, htk, hb2, hsz2⟩ := bytes_of S w1 (by omega)
  have hz1 := HB1.out.size
  have hA2 : Seg w2 w1.heap.size (.slice A l.length c) (byteCells l) := ((HS.out.below HB1.out).more hz1).below hb2
  have hSll : S.data.toList.length = S.size := by rw [Lib.size_eq]
  obtain ⟨A', c', w3, hrun, hseg, hk⟩ := app_mark w2 w1.heap.size cap cur fz hg hfz hcs S.data.toList (by rw [hSll]; exact hn) hcm (by rw [hSll]; exact htk) _ _ l hA2 (by rw [hSll]; omega)
  rw [hSll, HSL.out] at hrun
  rw [HSL.out] at hseg
  rw [← hS, hr]
  simp only [Result.andThen]
  rw [Oper.upon_value]
  have HRUN := Lib.hid hrun; have HSEG := Lib.hid hseg; have HK := Lib.hid hk; have HB2 := Lib.hid hb2
  have hSz : S.size ≤ 30 := by omega
  clear hrun hseg hk hb2 hr hg hfz hcs htk hA2 hS hSs f0 f1 hSll
  go_wp2_with (at_builtin; refine wpList_app_run _ rfl _ _ _ rfl _ _ HRUN.out ?_)
  go_wp2
  go_ret2
  have hbl : Below w.heap.size w w3 := (HB1.out.trans (HB2.out.mono hz1)).trans (HK.out.below (by omega) (fun k hk => by rw [hk]; exact hz1))
  have hzk := HK.out.size
  refine ⟨A', c', rfl, Lib.hid ⟨?_, hbl⟩⟩
  obtain ⟨A4, c4, e4, a1, a2, a3⟩ := HSEG.out
  injection e4 with e4 e5 e6
  subst e4 e6
  refine ⟨A', c', by rw [e5], a1, a2, fun hp => ?_⟩
  obtain ⟨b, off, q1, q2, q3⟩ := a3 hp
  exact ⟨b, off, q1, ⟨by rcases q2 with rfl | q2 <;> omega, by have h := (q3 0 hp).trans (List.getElem?_eq_getElem hp); exact World.block_lt_of_cell? _ _ h⟩, q3⟩
end Go.Proofs.YtffblcefnckacaaDoor
