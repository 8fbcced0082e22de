/- bytes.ContainsAny, at the set "\r\n": few bytes; all. -/
import Derived.Test.YtffblcefnckacaaDoorFQ
namespace Go.Proofs.YtffblcefnckacaaDoor
open Go.RowKit Go.Lib Go.Vfs Go.Par Go.Frm Go.Shelf
set_option linter.unusedVariables false
set_option linter.unusedSimpArgs false

set_option maxRecDepth 1000000 in
set_option maxHeartbeats 400000 in
theorem indexAny_short (A : Option Addr) (c : Nat) (l : List UInt8) (B : Nat) (w : World) (m : Int) (hc : l.length ≤ c) (hm : c ≤ 9223372036854775807) (ha : At w B A l.length (fun i => .int .u8 (l.getD i 0).toNat)) (hB : B ≤ w.heap.size) (h8 : l.length ≤ 8) (h1 : l.length ≠ 1) (hT : Tabs w) (hmx : w.cell? ⟨0, 0, none⟩ = some (.int .i64 m)) :
    Calls Tryd.prog 56 #[.slice A l.length c, .string ⟨#[13, 10]⟩] w (AnyPost w l) := by
  have h8z : ¬ (8 : Int) < (l.length : Int) := by omega
  have hn1 : ((l.length : Int) == 1) = false := beq_eq_false_iff_ne.2 (by omega)
  have HT := Lib.hid hT; have HM := Lib.hid hmx; have HA := Lib.hid ha
  clear hT hmx ha
  go_enter Tryd.func56, Tryd.ntmps56
  go_wp2_with (first
    | (go_at_call 79; refine (should_any _ _).mono ?_; rintro e w1 ⟨rfl, hw⟩; rw [hw]))
  go_loopw [11, 12, 13, 15] (fun _ i _ _ wr => ∃ k : Nat, k ≤ l.length ∧ i = .int .i64 k ∧ Hid ((l.take k).any crlf = false) ∧ Hid (Below w.heap.size w wr)) (fun _ i _ _ _ => l.length - (intOf i).toNat)
  case atStart => exact ⟨0, by omega, rfl, Lib.hid (by simp), Lib.hid (Below.refl _ _)⟩
  case round =>
    obtain ⟨k, hk, rfl, HN, HBw⟩ := hrel
    by_cases hlt : k < l.length
    · obtain ⟨b, off, x, rfl, hb, hc1, hx, Hx⟩ := (HA.out.below (HBw.out.mono hB)).byte hlt
      by_cases h128 : x < 128
      · obtain ⟨ib, hib, hdec⟩ := indexByte_set x hx
        have g1 : (x : Int) < 128 := by omega
        by_cases hi : (0 : Int) ≤ ib
        · have HR : Hid (decide ((0 : Int) ≤ k) = l.any crlf) := Lib.hid (by
            rw [any_hit hlt (by rw [crlf_nat, Hx.out, ← hdec]; exact decide_eq_true hi)]; exact decide_eq_true (by omega))
          clear hdec
          go_wp2
          go_ret
          exact ⟨_, rfl, HR.out, HBw.out⟩
        · have HNT : Hid ((l.take (k + 1)).any crlf = false) := Lib.hid (any_one hlt HN.out (by rw [crlf_nat, Hx.out, ← hdec]; exact decide_eq_false hi))
          clear hdec
          go_wp2
          go_roundw
          case rel => exact ⟨k + 1, by omega, by go_num, HNT, HBw⟩
          case measure => simp [intOf]; omega
      · have g1 : ¬ (x : Int) < 128 := by omega
        have hcp : ¬ c = k := by omega
        have hdec := decode_at_any b off (c - k) k l wr B (HA.out.below (HBw.out.mono hB)) hlt (HT.out.below HBw.out)
        have hne : l.drop k ≠ [] := by intro e; have := congrArg List.length e; simp at this; omega
        have hx0 : 128 ≤ ((l.drop k).getD 0 0).toNat := by
          have : (l.drop k).getD 0 0 = l.getD k 0 := by simp [List.getD_eq_getElem?_getD, List.getElem?_drop]
          rw [this, Hx.out]; omega
        obtain ⟨d1, d2, d3, d4, d5, -⟩ := dec_high hne hx0
        have d6 := dec_enc hne hx0
        obtain ⟨r, hr⟩ : ∃ r, r = (decodeL (l.drop k)).1 := ⟨_, rfl⟩
        obtain ⟨n, hn⟩ : ∃ n, n = (decodeL (l.drop k)).2 := ⟨_, rfl⟩
        rw [← hr, ← hn] at hdec d6
        rw [← hr] at d1 d2
        rw [← hn] at d3 d4 d5
        have HNT : Hid ((l.take (k + n)).any crlf = false) := Lib.hid (any_step HN.out d5)
        rw [List.length_drop] at d4
        have HDEC := Lib.hid hdec
        clear hdec d5 hne hx0 hr hn
        have hn0 : ∀ (W : World) ty, (Instr.next (.pointer (some ⟨W.heap.size, 0, none⟩)) true ty).run Tryd.prog (W.iter ⟨#[13, 10]⟩ 0) = .ok (.tuple #[.bool true, .int .i64 0, .int .i32 13]) (W.iter ⟨#[13, 10]⟩ 1) := fun (W : World) ty => run_next_ascii (P := Tryd.prog) W ⟨#[13, 10]⟩ 0 ty (by decide) (by decide)
        have hn1 : ∀ (W : World) ty, (Instr.next (.pointer (some ⟨W.heap.size, 0, none⟩)) true ty).run Tryd.prog (W.iter ⟨#[13, 10]⟩ 1) = .ok (.tuple #[.bool true, .int .i64 1, .int .i32 10]) (W.iter ⟨#[13, 10]⟩ 2) := fun (W : World) ty => run_next_ascii (P := Tryd.prog) W ⟨#[13, 10]⟩ 1 ty (by decide) (by decide)
        have hn2 := fun (W : World) ty => run_next_end (P := Tryd.prog) W ⟨#[13, 10]⟩ 2 ty (by decide)
        have g13 : ((r : Int) == 13) = false := beq_eq_false_iff_ne.2 (by omega)
        have g10 : ((r : Int) == 10) = false := beq_eq_false_iff_ne.2 (by omega)
        by_cases h6 : r = 65533
        · have g6 : ((r : Int) != 65533) = false := by simp [h6]
          go_wp2_with fail
          refine HDEC.out.mono ?_
          rintro e w2 ⟨rfl, hb2⟩
          have HB2 : Hid (Below w.heap.size w w2) := Lib.hid (HBw.out.trans (hb2.mono HBw.out.size))
          clear hb2
          go_wp2
          go_loopg [15] 2 (fun g ch wx => ∃ i : Nat, i + g = 2 ∧ wx = w2.iter ⟨#[13, 10]⟩ i)
          case atStart => exact ⟨0, by omega, rfl⟩
          case round =>
            obtain ⟨i, hig, rfl⟩ := hrel
            cases gk with
            | zero =>
              obtain rfl : i = 2 := by omega
              go_wp2
              go_roundw
              case rel => exact ⟨k + n, by omega, by go_num, HNT, Lib.hid (HB2.out.alloc HB2.out.size _)⟩
              case measure => simp [intOf]; omega
            | succ g =>
              rcases (show i = 0 ∨ i = 1 by omega) with rfl | rfl
              · go_wp2
                go_roundg g
                case measure => omega
                case rel => exact ⟨1, by omega, rfl⟩
              · go_wp2
                go_roundg g
                case measure => omega
                case rel => exact ⟨2, by omega, rfl⟩
        · have g6 : ((r : Int) != 65533) = true := by simp; omega
          obtain ⟨e1, e2, e3⟩ := d6 h6
          obtain ⟨e4, e5⟩ := enc_set e2 d1
          by_cases h2 : n = 2
          · have g2 : ((2 : Int) == (n : Int)) = true := by simp [h2]
            go_wp2_with fail
            refine HDEC.out.mono ?_
            rintro e w2 ⟨rfl, hb2⟩
            have HB2 : Hid (Below w.heap.size w w2) := Lib.hid (HBw.out.trans (hb2.mono HBw.out.size))
            clear hb2
            obtain ⟨E, hE⟩ : ∃ E, E = Utf8.encode (r : Int) := ⟨_, rfl⟩
            have hcv : ∀ W, (convert 21 9 (.int .i32 (r : Int))).run Tryd.prog W = .ok (.string E) W := fun W => by rw [hE]; exact run_convert_int_string W 21 9 .i32 r (by rw [Tryd.underlying21]; rfl) Tryd.underlying9
            have heq : (([13, 10] : List UInt8) == E.toList) = false := by
              rw [beq_eq_false_iff_ne, hE]
              intro e
              apply e4
              rw [Lib.toList_data] at e
              generalize Utf8.encode (r : Int) = Z at e ⊢
              obtain ⟨⟨z⟩⟩ := Z
              simp at e
              rw [← e]
            clear hE e1 e2 e4 e5 d6 hn0 hn1 hn2
            go_wp2
            go_roundw
            case rel => exact ⟨k + 2, by omega, by go_num, by rw [h2] at HNT; exact HNT, HB2⟩
            case measure => simp [intOf]; omega
          · have g2 : ((2 : Int) == (n : Int)) = false := by simp; omega
            obtain ⟨E, hE⟩ : ∃ E, E = Utf8.encode (r : Int) := ⟨_, rfl⟩
            have hcv : ∀ W, (convert 21 9 (.int .i32 (r : Int))).run Tryd.prog W = .ok (.string E) W := fun W => by rw [hE]; exact run_convert_int_string W 21 9 .i32 r (by rw [Tryd.underlying21]; rfl) Tryd.underlying9
            rw [← hE] at e1 e5
            clear hE e2 e4 d6
            have hgl : Tryd.prog.globals.findIdx? (·.name == "internal/bytealg.MaxLen") = some 0 := by kernel_rfl
            have HIS : Hid (∀ W : World, W.cell? ⟨0, 0, none⟩ = some (.int .i64 m) → (n : Int) ≤ m → (callFunc 82 #[.string ⟨#[13, 10]⟩, .string E]).run Tryd.prog W = .ok (.value (.int .i64 (-1))) W) := Lib.hid (fun W hW hnm => by
              rw [run_callFunc_extern Tryd.func82 (by kernel_rfl) (by kernel_rfl) (by kernel_rfl) (e := Extern.BytealgIndex.index) (by kernel_rfl), Lib.run_indexString ⟨#[13, 10]⟩ E W 0 m hgl hW (by rw [e1]; exact e3) (by rw [e1]; exact hnm) (by decide)]
              simp only [Result.andThen]
              rw [e5])
            clear e1 e5 hgl
            go_wp2_with fail
            refine HDEC.out.mono ?_
            rintro e w2 ⟨rfl, hb2⟩
            have HB2 : Hid (Below w.heap.size w w2) := Lib.hid (HBw.out.trans (hb2.mono HBw.out.size))
            have hm2 : w2.cell? ⟨0, 0, none⟩ = some (.int .i64 m) := (HB2.out.cell (p := ⟨0, 0, none⟩) (World.block_lt_of_cell? _ _ HM.out)).trans HM.out
            clear hb2
            by_cases hnm : (n : Int) ≤ m
            · have his := HIS.out w2 hm2 hnm
              clear hn0 hn1 hn2
              go_wp2
              go_roundw
              case rel => exact ⟨k + n, by omega, by go_num, HNT, HB2⟩
              case measure => simp [intOf]; omega
            · go_wp2
              go_loopg [15] 2 (fun g ch wx => ∃ i : Nat, i + g = 2 ∧ wx = w2.iter ⟨#[13, 10]⟩ i)
              case atStart => exact ⟨0, by omega, rfl⟩
              case round =>
                obtain ⟨i, hig, rfl⟩ := hrel
                cases gk with
                | zero =>
                  obtain rfl : i = 2 := by omega
                  go_wp2
                  go_roundw
                  case rel => exact ⟨k + n, by omega, by go_num, HNT, Lib.hid (HB2.out.alloc HB2.out.size _)⟩
                  case measure => simp [intOf]; omega
                | succ g =>
                  rcases (show i = 0 ∨ i = 1 by omega) with rfl | rfl
                  · go_wp2
                    go_roundg g
                    case measure => omega
                    case rel => exact ⟨1, by omega, rfl⟩
                  · go_wp2
                    go_roundg g
                    case measure => omega
                    case rel => exact ⟨2, by omega, rfl⟩
    · have hkl : k = l.length := by omega
      have HR : Hid (decide ((0 : Int) ≤ -1) = l.any crlf) := Lib.hid (by
        have h := HN.out
        rw [hkl, List.take_of_length_le (Nat.le_refl _)] at h
        rw [h]; decide)
      clear hkl
      go_wp2
      go_ret
      exact ⟨_, rfl, HR.out, HBw.out⟩

theorem indexAny_any (A : Option Addr) (c : Nat) (l : List UInt8) (B : Nat) (w : World) (m : Int) (h : Seg w B (.slice A l.length c) (Lib.byteCells l)) (hB : B ≤ w.heap.size) (hT : Tabs w) (hmx : w.cell? ⟨0, 0, none⟩ = some (.int .i64 m)) :
    Calls Tryd.prog 56 #[.slice A l.length c, .string ⟨#[13, 10]⟩] w (AnyPost w l) := by
  obtain ⟨A1, c1, e1, hc, hm, ha⟩ := h.open_bytes
  cases e1
  by_cases h1 : l.length = 1
  · obtain ⟨b, off, x, rfl, hb, hc1, hx, Hx⟩ := ha.byte (k := 0) (by omega)
    rw [h1] at hc ⊢
    exact indexAny_one b off c x l w h1 hc hx hc1 Hx.out
  · by_cases h8 : 8 < l.length
    · exact indexAny_long A c l B w hc hm ha hB h8
    · exact indexAny_short A c l B w m hc hm ha hB (by omega) h1 hT hmx
set_option maxRecDepth 20000 in
set_option maxHeartbeats 400000 in
/-- bytes.ContainsAny. -/
theorem containsAny_any (A : Option Addr) (c : Nat) (l : List UInt8) (B : Nat) (w : World) (m : Int) (h : Seg w B (.slice A l.length c) (Lib.byteCells l)) (hB : B ≤ w.heap.size) (hT : Tabs w) (hmx : w.cell? ⟨0, 0, none⟩ = some (.int .i64 m)) :
    Calls Tryd.prog 41 #[.slice A l.length c, .string ⟨#[13, 10]⟩] w fun e w' => e = .returned (.bool (l.any crlf)) ∧ Below w.heap.size w w' := by
  have H := Lib.hid (indexAny_any A c l B w m h hB hT hmx)
  clear h hT hmx hB
  go_enter Tryd.func41, Tryd.ntmps41
  go_wp2_with (go_at_call 56; refine H.out.mono ?_; rintro e w' ⟨i, rfl, hi, hb⟩)
  go_ret
  exact ⟨ret_bool (by first | rfl | exact hi), hb⟩
end Go.Proofs.YtffblcefnckacaaDoor
