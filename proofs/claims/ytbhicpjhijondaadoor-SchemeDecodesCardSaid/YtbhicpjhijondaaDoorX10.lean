/- scheme.written. -/
import Derived.Test.YtbhicpjhijondaaDoorX9
namespace Go.Proofs.YtbhicpjhijondaaDoor
open Go.RowKit Go.Lib Go.Vfs Go.Par Go.Typ Go.Shelf
set_option linter.unusedVariables false
set_option linter.unusedSimpArgs false

theorem cell_u8 (n : Nat) (x : Int) (h : x = ((n % 256 : Nat) : Int)) : [Value.int .u8 x] = byteCells [n.toUInt8] := by
  subst h
  simp [byteCells, UInt8.toNat_ofNat']
theorem cells_be4 (n : Nat) (hn : n < 4294967296) : byteCells (be4 n) = [.int .u8 ((n : Int) / 16777216 % 256), .int .u8 ((n : Int) / 65536 % 256), .int .u8 ((n : Int) / 256 % 256), .int .u8 ((n : Int) % 256)] := by
  unfold byteCells be4
  simp only [List.map_cons, List.map_nil]
  have key : ∀ m : Nat, (m % 256).toUInt8.toNat = m % 256 := fun m => by
    show (UInt8.ofNat (m % 256)).toNat = _
    rw [UInt8.toNat_ofNat']; omega
  rw [key, key, key, key]
  rfl

section
variable {P : Program} (w : World)
/-- append of a string onto a row of the call's own; where the new row lies. -/
theorem wpList_app_str {ops : Array Oper} {rest : List Oper} {o : Oper} {a : Act} {Q : Exit → Act → World → Prop} (hgd : o.guard = none) (sl x : Operand) (t u : TypeId)
    (ho : o.op = .call { callee := .builtin .append, args := #[sl, x], argTypes := #[t, u] })
    (base : Nat) (e : TypeId) (i : TypeInfo) (ht : P.underlying t = some (.slice e)) (hu : P.underlying u = some .string) (hi : P.info? e = some i) (hz : i.zero = some (.int .u8 0))
    (hsize : i.size = 1) (hby : i.bytes = 1)
    (v : Value) (xs : List Value) (hs : a.eval sl = v) (hown : Par.Own w base e v xs) (s : ByteArray) (hx : a.eval x = .string s)
    (hbytes : xs.length + s.size ≤ 140737488355328) (hbase : base ≤ w.heap.size)
    (h : ∀ v' w', Par.Own w' base e v' (xs ++ strCells s) → w.grownBy w' v.ownBlock → (v'.ownBlock = v.ownBlock ∨ v'.ownBlock = some w.heap.size) → wpList P ops Q rest (a.put o.dst v') w') : wpList P ops Q (o :: rest) a w := by
  refine wpList_plain hgd fun K hK => ?_
  obtain ⟨v', w', hr, h2, h3, h4⟩ := run_append_own_string (P := P) w base t u o.type e i ht hu hi hz hsize hby v xs.length xs hown s (by simp only [maxLen]; omega) hbytes hbase
  have hat : v'.ownBlock = v.ownBlock ∨ v'.ownBlock = some w.heap.size := by
    rcases hown.2 with ⟨rfl, hn⟩ | ⟨g, cap, cur, rfl, hbg, hg, hnc, hcm, hcs, htake⟩
    · by_cases hm : s.size = 0
      · have := h4.2 ⟨rfl, hm⟩
        rw [this]; exact .inl rfl
      · have hr2 := run_append_nil_string (P := P) w t u o.type e i (.int .u8 0) ht hu hi hz s (by omega) (by omega) (by rw [hby]; omega)
        rw [hr2] at hr
        injection hr with e1 _
        rw [← e1]; exact .inr rfl
    · by_cases hroom : xs.length + s.size ≤ cap
      · have hcs' : cur.size = cap := by simpa using hcs
        have hr2 := run_append_room_string (P := P) w t u o.type e i ht hu hi hsize g xs.length cap cur hg s hroom (by omega)
        rw [hr2] at hr
        injection hr with e1 _
        rw [← e1]; exact .inl rfl
      · have holds : ∀ j u, xs[j]? = some u → w.cell? ((⟨g, 0, none⟩ : Addr).add j) = some u := World.ownsRow.cells hown (g := g) rfl
        have hr2 := run_append_grow_string (P := P) w t u o.type e i (.int .u8 0) ht hu hi hz ⟨g, 0, none⟩ xs.length cap xs (by rw [hsize]; simp) holds s (by omega) (by omega) (by rw [hby]; exact growslice_fits (by omega) (by omega))
        rw [hr2] at hr
        injection hr with e1 _
        rw [← e1]; exact .inr rfl
  unfold Oper.wp execOp
  simp only [ho, resolve, invoke, builtin, Sem.run_bind, Sem.run_pure, Result.andThen_ok, List.map_toArray, List.map_cons, List.map_nil, hs, hx, hr]
  refine hK _ _ (h v' w' ?_ h3 hat)
  unfold Par.Own
  rw [List.length_append, strCells_length]
  exact h2
end
theorem strCells_bytes (s : ByteArray) : strCells s = byteCells s.data.toList := rfl
/-- bytes under way: the row, and what else is as it was. -/
structure WS (B : Nat) (W1 : World) (bv : Value) (cur : List UInt8) (sv : Value) (W : World) : Prop where
  own : Par.Own W B 5 sv (byteCells cur)
  gr : Gr W1 W bv sv
theorem WS.app {B : Nat} {W1 W W' : World} {bv sv v' : Value} {cur xs : List UInt8} {o : Obj} (h : WS B W1 bv cur sv W) (hown : Par.Own W' B 5 v' (byteCells cur ++ byteCells xs)) (hg : (W.alloc o).grownBy W' sv.ownBlock)
    (hat : v'.ownBlock = sv.ownBlock ∨ v'.ownBlock = some (W.alloc o).heap.size) : WS B W1 bv (cur ++ xs) v' W' :=
  ⟨by rw [byteCells_append]; exact hown, h.gr.trans (Gr.app hg hat)⟩
theorem WS.app0 {B : Nat} {W1 W W' : World} {bv sv v' : Value} {cur xs : List UInt8} (h : WS B W1 bv cur sv W) (hown : Par.Own W' B 5 v' (byteCells cur ++ byteCells xs)) (hg : W.grownBy W' sv.ownBlock)
    (hat : v'.ownBlock = sv.ownBlock ∨ v'.ownBlock = some W.heap.size) : WS B W1 bv (cur ++ xs) v' W' :=
  ⟨by rw [byteCells_append]; exact hown, h.gr.trans ⟨hg, hat.imp_right fun h g e => by rw [h] at e; injection e with e; omega⟩⟩
theorem WS.form {B : Nat} {W1 W : World} {bv sv : Value} {cur : List UInt8} (h : WS B W1 bv cur sv W) : ∃ A c, sv = .slice A cur.length c := by
  obtain ⟨A, c, e⟩ := h.own.form
  rw [byteCells_length] at e
  exact ⟨A, c, e⟩
theorem seg_u8 (W : World) (n : Nat) (hn : n < 256) : Seg (W.alloc (.cells #[.int .u8 (n : Int)] 5)) (W.heap.size + 1) (.slice (some ⟨W.heap.size, 0, none⟩) 1 1) (byteCells [n.toUInt8]) := by
  have h := Seg.new W 5 #[.int .u8 (n : Int)] (byteCells [n.toUInt8]) (by rw [← cell_u8 n (n : Int) (by omega)]) (by simp [byteCells, maxLen])
  simpa [byteCells] using h

set_option maxRecDepth 20000 in
set_option maxHeartbeats 4000000 in
theorem written_any (B : Nat) (T : Ty) : ∀ (bs : List UInt8) (bv v : Value) (w : World), B ≤ w.heap.size → TyAt (· < B) w v T → Par.Own w B 5 bv (byteCells bs) → FitAll T → shortT T = true → bs.length + 300 * T.parts ≤ 2000000000 →
    Calls Tryd.prog 68 #[bv, v] w fun e w' => ∃ v', e = .returned v' ∧ Par.Own w' B 5 v' (byteCells (bs ++ wrT T)) ∧ Gr w w' bv v' := by
  induction T using Ty.ind with
  | h T ih =>
    intro bs bv v w hB hT hO hF hS hp
    have IH := Lib.hid ih
    clear ih
    obtain ⟨A, c, rfl, hc, hm, hn⟩ := hT.form
    obtain ⟨Am, cm, rfl⟩ := hO.form
    rw [byteCells_length] at hO ⊢
    obtain ⟨W1, hW1⟩ : ∃ W1, W1 = w.alloc (.cells #[.int .i64 T.kind, .int .i64 T.num, .string T.name, .slice A T.args.length c] 24) := ⟨_, rfl⟩
    have hb1 : Below w.heap.size w W1 := by rw [hW1]; exact (Below.refl _ _).alloc (Nat.le_refl _) _
    have hbx : W1.heap[w.heap.size]? = some (.cells #[.int .i64 T.kind, .int .i64 T.num, .string T.name, .slice A T.args.length c] 24 (0, 0)) := by rw [hW1]; exact heap_alloc_new _ _
    have hz1 : W1.heap.size = w.heap.size + 1 := by rw [hW1]; simp
    have hT1 : TyAt (· < B) W1 (tyV T.kind T.num T.name A T.args.length c) T := hT.keep fun g hg => ⟨hg, hb1.block g (by omega)⟩
    have hO1 := hO.below hb1
    have HBX := Lib.hid hbx; have HP := Lib.hid hp; have HZ1 := Lib.hid hz1; have HT1 := Lib.hid hT1; have HB1 := Lib.hid hb1; have HB := Lib.hid hB; have HFA := Lib.hid hF; have HSH := Lib.hid hS
    have HOL : Hid (∀ g, (Value.slice Am bs.length cm).ownBlock = some g → B ≤ g ∧ g < w.heap.size) := Lib.hid hO.lt
    obtain ⟨y0, y1, y2, y3⟩ := box4 hbx
    have hnl := shortT_name hS
    have hal := shortT_args hS
    have hpp := T.parts_pos
    have hfs := hF.self
    clear hT hbx hp hT1 hb1 hc hm hn hO hF hS
    unfold tyV
    -- the first byte
    obtain ⟨kn, hkn, hk1, hk4⟩ : ∃ kn : Nat, T.kind = (kn : Int) ∧ 1 ≤ kn ∧ kn ≤ 4 := by
      obtain ⟨k, n, s, ts⟩ := T
      rcases fits_kinds hfs with ⟨h, _⟩ | ⟨h, _⟩ | ⟨h, _⟩ | ⟨h, _⟩
      · exact ⟨1, h, by omega, by omega⟩
      · exact ⟨2, h, by omega, by omega⟩
      · exact ⟨3, h, by omega, by omega⟩
      · exact ⟨4, h, by omega, by omega⟩
    have HWS : Hid (WS B W1 (.slice Am bs.length cm) bs (.slice Am bs.length cm) W1) := Lib.hid ⟨hO1, Gr.refl _ _⟩
    have hwk : IntKind.u8.wrap (kn : Int) = (kn : Int) := by unfold IntKind.wrap; simp [IntKind.signed, IntKind.bits]; omega
    have hsg := seg_u8 W1 kn (by omega)
    have hal1 : ∀ o, Par.Own (W1.alloc o) B 5 (.slice Am bs.length cm) (byteCells bs) := fun o => hO1.alloc o
    have hbl : bs.length ≤ 2000000000 := by have := HP.out; omega
    have hzB : B ≤ W1.heap.size := by have := HB.out; omega
    have HBK : Hid (∀ cur sv W, WS B W1 (.slice Am bs.length cm) cur sv W → W.heap[w.heap.size]? = some (.cells #[.int .i64 T.kind, .int .i64 T.num, .string T.name, .slice A T.args.length c] 24 (0, 0)) ∧ TyAt (· < B) W (tyV T.kind T.num T.name A T.args.length c) T ∧ B ≤ W.heap.size) := Lib.hid fun cur sv W h => by
      have hbb := h.gr.below hzB fun g e => (HOL.out g e).1
      exact ⟨(h.gr.block (by omega) (fun e => by have := (HOL.out _ e).2; omega)).trans HBX.out, HT1.out.keep fun g hg => ⟨hg, hbb.block g hg⟩, by have := hbb.size; omega⟩
    clear hz1
    rw [hkn] at y0 hW1 HBK ⊢
    rw [hW1] at y0 y1 y2 y3
    clear hO1
    go_enter Tryd.func68, Tryd.ntmps68
    go_upto_region 1 with fail
    rw [← hW1]
    clear hW1 y0 y1 y2 y3
    obtain ⟨y0, y1, y2, y3⟩ := box4 (HBK.out _ _ _ HWS.out).1
    go_upto_region 2 with (at_builtin; refine wpList_app _ rfl _ _ _ rfl B 5 _ byteE _ _ rfl (hal1 _) _ _ _ rfl hsg (one_bytes _) ?c1 ?c2 ?_)
    case c1 => rw [byteCells_length]; simp [byteCells]; omega
    case c2 => simp; omega
    intro v2 w2 hown2 hg2 hat2
    have hws2 := WS.app (xs := [kn.toUInt8]) HWS.out hown2 hg2 (by rw [World.size_alloc]; exact hat2)
    obtain ⟨cur2, hcur2⟩ : ∃ cur2, cur2 = bs ++ [kn.toUInt8] := ⟨_, rfl⟩
    have hcl2 : cur2.length = bs.length + 1 := by rw [hcur2]; simp
    rw [← hcur2] at hws2
    obtain ⟨A2, c2, rfl⟩ := hws2.form
    have HWS2 := Lib.hid hws2
    have HCUR2 := Lib.hid hcur2
    have hc2b : cur2.length ≤ bs.length + 1 := by omega
    obtain ⟨y0, y1, y2, y3⟩ := box4 (HBK.out _ _ _ hws2).1
    have hz2B := (HBK.out _ _ _ hws2).2.2
    clear hcur2 hws2 hown2 hg2 hat2 hsg hal1 hcl2 hwk HWS
    by_cases h1 : kn = 1
    · subst h1
      obtain ⟨nn, hnn, hnb⟩ : ∃ nn : Nat, T.num = (nn : Int) ∧ nn < 1073741824 := by
        obtain ⟨k, n, s, ts⟩ := T
        rcases fits_kinds hfs with ⟨_, h0, h1, _⟩ | ⟨h, _⟩ | ⟨h, _⟩ | ⟨h, _⟩
        · have h0 : 0 ≤ n := h0
          have h1 : n < 1073741824 := h1
          exact ⟨n.toNat, by show n = _; omega, by omega⟩
        all_goals (rw [hkn] at h; cases h)
      have HFIN : Hid (bs ++ wrT T = cur2 ++ be4 nn) := Lib.hid (by
        rw [wrT_eq, hkn, if_pos (show ((1 : Nat) : Int) = 1 from rfl), HCUR2.out, hnn, Int.toNat_natCast, List.append_assoc]
        rfl)
      rw [hnn] at y1
      have hal2 : ∀ o, Par.Own (w2.alloc o) B 5 (.slice A2 cur2.length c2) (byteCells cur2) := fun o => HWS2.out.own.alloc o
      have hsg4 : Seg (w2.alloc (.cells #[.int .u8 ((nn : Int) / 16777216), .int .u8 ((nn : Int) / 65536 % 256), .int .u8 ((nn : Int) / 256 % 256), .int .u8 ((nn : Int) % 256)] 5)) (w2.heap.size + 1) (.slice (some ⟨w2.heap.size, 0, none⟩) 4 4) (byteCells (be4 nn)) := by
        have h := Seg.new w2 5 #[.int .u8 ((nn : Int) / 16777216), .int .u8 ((nn : Int) / 65536 % 256), .int .u8 ((nn : Int) / 256 % 256), .int .u8 ((nn : Int) % 256)] (byteCells (be4 nn)) (by
          rw [cells_be4 nn (by omega), show (nn : Int) / 16777216 % 256 = (nn : Int) / 16777216 by omega]) (by rw [byteCells_length, be4_length]; simp [maxLen])
        rw [byteCells_length, be4_length] at h
        exact h
      go_wp2_with (at_builtin; refine wpList_app _ rfl _ _ _ rfl B 5 _ byteE _ _ rfl (hal2 _) _ _ _ rfl hsg4 (one_bytes _) ?c1 ?c2 ?_)
      case c1 => rw [byteCells_length, byteCells_length, be4_length]; omega
      case c2 => simp; omega
      intro v3 w3 hown3 hg3 hat3
      have hws3 := WS.app (xs := be4 nn) HWS2.out hown3 hg3 (by rw [World.size_alloc]; exact hat3)
      have HE : Hid (Par.Own w3 B 5 v3 (byteCells (bs ++ wrT T)) ∧ Gr w w3 (.slice Am bs.length cm) v3) := Lib.hid ⟨by rw [HFIN.out]; exact hws3.own, (Gr.of_below HB1.out _).trans hws3.gr⟩
      clear hws3 hown3 hg3 hat3
      go_wp2
      go_ret
      exact ⟨_, rfl, HE.out.1, HE.out.2⟩
    · have hk1f : ((kn : Int) == 1) = false := by simp; omega
      have hwa : IntKind.u8.wrap (T.args.length : Int) = (T.args.length : Int) := by unfold IntKind.wrap; simp [IntKind.signed, IntKind.bits]; omega
      by_cases h2 : kn = 2
      focus
        subst h2
        have hwn : IntKind.u8.wrap (T.name.size : Int) = (T.name.size : Int) := by unfold IntKind.wrap; simp [IntKind.signed, IntKind.bits]; omega
        have hsg3 := seg_u8 w2 T.name.size (by omega)
        have hal2 : ∀ o, Par.Own (w2.alloc o) B 5 (.slice A2 cur2.length c2) (byteCells cur2) := fun o => HWS2.out.own.alloc o
        go_upto_region 6 with (at_builtin; refine wpList_app _ rfl _ _ _ rfl B 5 _ byteE _ _ rfl (hal2 _) _ _ _ rfl hsg3 (one_bytes _) ?c1 ?c2 ?_)
        case c1 => rw [byteCells_length]; simp [byteCells]; omega
        case c2 => simp; omega
        intro v3 w3 hown3 hg3 hat3
        have hws3 := WS.app (xs := [T.name.size.toUInt8]) HWS2.out hown3 hg3 (by rw [World.size_alloc]; exact hat3)
        obtain ⟨cur3, hcur3⟩ : ∃ cur3, cur3 = cur2 ++ [T.name.size.toUInt8] := ⟨_, rfl⟩
        have hcl3 : cur3.length ≤ bs.length + 2 := by rw [hcur3]; simp; omega
        rw [← hcur3] at hws3
        obtain ⟨A3, c3, rfl⟩ := hws3.form
        have HWS3 := Lib.hid hws3
        have HCUR3 := Lib.hid hcur3
        clear y0 y1 y2 y3
        obtain ⟨y0, y1, y2, y3⟩ := box4 (HBK.out _ _ _ hws3).1
        have hz3B := (HBK.out _ _ _ hws3).2.2
        have hown3 := hws3.own
        clear hcur3 hws3 hg3 hat3 hsg3 hal2 hwn
        obtain ⟨i0, hi, hz0, hz1, hz2⟩ := byteInfo
        go_upto_region 7 with (at_builtin; refine wpList_app_str _ rfl _ _ 47 9 rfl B 5 i0 Tryd.underlying47 Tryd.underlying9 hi hz0 hz1 hz2 _ _ rfl hown3 T.name rfl ?c3 ?c5 ?_)
        case c3 => rw [byteCells_length]; omega
        case c5 => omega
        intro v4 w4 hown4 hg4 hat4
        rw [strCells_bytes] at hown4
        have hws4 := WS.app0 (xs := T.name.data.toList) HWS3.out hown4 hg4 hat4
        obtain ⟨cur4, hcur4⟩ : ∃ cur4, cur4 = cur3 ++ T.name.data.toList := ⟨_, rfl⟩
        have hcl4 : cur4.length ≤ bs.length + 257 := by
          have h3 : T.name.data.toList.length = T.name.size := by rw [Array.length_toList]; rfl
          rw [hcur4, List.length_append, h3]; omega
        have HPRE : Hid (bs ++ wrT T = cur4 ++ ([T.args.length.toUInt8] ++ wrL T.args)) := Lib.hid (by
          rw [wrT_eq, hkn, if_neg (show ¬ ((2 : Nat) : Int) = 1 by decide), if_pos (show ((2 : Nat) : Int) = 2 from rfl), hcur4, HCUR3.out, HCUR2.out]
          simp only [List.append_assoc]
          rfl)
        rw [← hcur4] at hws4
        clear y0 y1 y2 y3 hcur4 hown4 hg4 hat4 hown3 HCUR3 HWS3 hz3B
      rotate_left
      focus
        have hk2f : ((kn : Int) == 2) = false := by simp; omega
        have HPRE : Hid (bs ++ wrT T = cur2 ++ ([T.args.length.toUInt8] ++ wrL T.args)) := Lib.hid (by
          rw [wrT_eq, hkn, if_neg (show ¬ ((kn : Nat) : Int) = 1 by omega), if_neg (show ¬ ((kn : Nat) : Int) = 2 by omega), HCUR2.out, Int.toNat_natCast]
          simp only [List.append_assoc, List.nil_append])
        go_upto_region 7 with fail
        have hws4 := HWS2.out
        obtain ⟨cur4, hcur4⟩ : ∃ cur4, cur4 = cur2 := ⟨_, rfl⟩
        have hcl4 : cur4.length ≤ bs.length + 257 := by rw [hcur4]; omega
        obtain ⟨w4, hw4⟩ : ∃ w4, w4 = w2 := ⟨_, rfl⟩
        obtain ⟨v4, hv4⟩ : ∃ v4, v4 = Value.slice A2 cur2.length c2 := ⟨_, rfl⟩
        rw [← hcur4] at HPRE hws4
        rw [← hw4] at hws4
        rw [← hcur4] at hv4
        rw [← hv4] at hws4
        rw [← hcur4, ← hv4, ← hw4]
        clear y0 y1 y2 y3 hcur4 hw4 hv4 hk2f
      all_goals
        obtain ⟨A4, c4, rfl⟩ := hws4.form
        have HWS4 := Lib.hid hws4
        obtain ⟨y0, y1, y2, y3⟩ := box4 (HBK.out _ _ _ hws4).1
        have hz4B := (HBK.out _ _ _ hws4).2.2
        have hsg5 := seg_u8 w4 T.args.length (by omega)
        have hal5 : ∀ o, Par.Own (w4.alloc o) B 5 (.slice A4 cur4.length c4) (byteCells cur4) := fun o => HWS4.out.own.alloc o
        clear hws4
        go_upto_region 8 with (at_builtin; refine wpList_app _ rfl _ _ _ rfl B 5 _ byteE _ _ rfl (hal5 _) _ _ _ rfl hsg5 (one_bytes _) ?c1 ?c2 ?_)
        case c1 => rw [byteCells_length]; simp [byteCells]; omega
        case c2 => simp; omega
        intro v5 w5 hown5 hg5 hat5
        have hws5 := WS.app (xs := [T.args.length.toUInt8]) HWS4.out hown5 hg5 (by rw [World.size_alloc]; exact hat5)
        obtain ⟨cur5, hcur5⟩ : ∃ cur5, cur5 = cur4 ++ [T.args.length.toUInt8] := ⟨_, rfl⟩
        rw [← hcur5] at hws5
        have HEQ5 : Hid (cur5 ++ wrL (T.args.drop 0) = bs ++ wrT T) := Lib.hid (by rw [List.drop_zero, HPRE.out, hcur5, List.append_assoc])
        have HLE5 : Hid (cur5.length + 300 * partsL (T.args.drop 0) ≤ bs.length + 300 * T.parts) := Lib.hid (by
          rw [List.drop_zero, hcur5, List.length_append, T.parts_eq]; simp; omega)
        have HWS5 := Lib.hid hws5
        obtain ⟨y0', y1', y2', y3'⟩ := box4 (HBK.out _ _ _ hws5).1
        clear y0 y1 y2 y3 hws5 hcur5 hown5 hg5 hat5 hal5 hsg5 hwa HPRE hcl4 hk1f hnl h1
        go_wp2
        clear y0' y1' y2' y3'
        go_loopw [0, 58] (fun sv iv W => ∃ (k : Nat) (cur : List UInt8), k ≤ T.args.length ∧ iv = .int .i64 k ∧ Hid (WS B W1 (.slice Am bs.length cm) cur sv W) ∧ Hid (cur ++ wrL (T.args.drop k) = bs ++ wrT T) ∧ Hid (cur.length + 300 * partsL (T.args.drop k) ≤ bs.length + 300 * T.parts)) (fun _ iv _ => T.args.length - (RowKit.intOf iv).toNat)
        case atStart => exact ⟨0, cur5, by omega, rfl, HWS5, HEQ5, HLE5⟩
        case round =>
          obtain ⟨k, cur, hk, rfl, HWSR, HEQ, HLE⟩ := hrel
          obtain ⟨As, cs, es⟩ := HWSR.out.form
          subst es
          by_cases hlt : k < T.args.length
          · obtain ⟨-, htr, hzr⟩ := HBK.out _ _ _ HWSR.out
            obtain ⟨b, off, A', c', rfl, hb, ht, x0, x1, x2, x3⟩ := htr.arg hlt
            obtain ⟨W2, hW2⟩ : ∃ W2, W2 = wr.alloc (.cells #[.int .i64 T.args[k].kind, .int .i64 T.args[k].num, .string T.args[k].name, .slice A' T.args[k].args.length c'] 24) := ⟨_, rfl⟩
            have hb2 : Below wr.heap.size wr W2 := by rw [hW2]; exact (Below.refl _ _).alloc (Nat.le_refl _) _
            have heq := HEQ.out
            rw [wrL_step hlt] at heq
            have hps := partsL_step hlt
            have hwl := wrT_len T.args[k] (shortT_arg HSH.out (List.getElem_mem hlt))
            have hle := HLE.out
            have hca := IH.out k hlt cur (.slice As cur.length cs) _ W2 (by have := hb2.size; omega) (ht.keep fun g hg => ⟨hg, hb2.block g (by omega)⟩) (HWSR.out.own.below hb2) (HFA.out.arg hlt) (shortT_arg HSH.out (List.getElem_mem hlt)) (by have := HP.out; omega)
            obtain ⟨z0, z1, z2, z3⟩ := box4 (show W2.heap[wr.heap.size]? = some (.cells #[.int .i64 T.args[k].kind, .int .i64 T.args[k].num, .string T.args[k].name, .slice A' T.args[k].args.length c'] 24 (0, 0)) by rw [hW2]; exact heap_alloc_new _ _)
            have HNX : Hid ((cur ++ wrT T.args[k]) ++ wrL (T.args.drop (k + 1)) = bs ++ wrT T) := Lib.hid (by rw [List.append_assoc]; exact heq)
            have HLX : Hid ((cur ++ wrT T.args[k]).length + 300 * partsL (T.args.drop (k + 1)) ≤ bs.length + 300 * T.parts) := Lib.hid (by rw [List.length_append]; omega)
            have HG2 : Hid (Gr W1 W2 (.slice Am bs.length cm) (.slice As cur.length cs)) := Lib.hid (HWSR.out.gr.trans (Gr.of_below hb2 _))
            clear ht htr heq hps hwl hle hb2
            generalize cur ++ wrT T.args[k] = cur2n at *
            generalize T.args[k] = V at *
            unfold tyV at hca
            have HCA := Lib.hid hca
            rw [hW2] at z0 z1 z2 z3
            clear hca
            go_wp2_with fail
            rw [← hW2]
            clear hW2 z0 z1 z2 z3
            refine HCA.out.mono ?_
            rintro e w6 ⟨v6, rfl, hO6, hg6⟩
            have HWS6 : Hid (WS B W1 (.slice Am bs.length cm) cur2n v6 w6) := Lib.hid ⟨hO6, HG2.out.trans hg6⟩
            clear hO6 hg6
            go_wp2
            go_roundw
            case rel => exact ⟨k + 1, cur2n, by omega, by go_num, HWS6, HNX, HLX⟩
            case measure => simp [RowKit.intOf]; omega
          · have hkl : k = T.args.length := by omega
            have heq := HEQ.out
            rw [hkl, List.drop_length, wrL, List.append_nil] at heq
            have HE : Hid (Par.Own wr B 5 (.slice As cur.length cs) (byteCells (bs ++ wrT T)) ∧ Gr w wr (.slice Am bs.length cm) (.slice As cur.length cs)) := Lib.hid ⟨by rw [← heq]; exact HWSR.out.own, (Gr.of_below HB1.out _).trans HWSR.out.gr⟩
            clear heq
            go_wp2
            go_ret
            exact ⟨_, rfl, HE.out.1, HE.out.2⟩
end Go.Proofs.YtbhicpjhijondaaDoor
