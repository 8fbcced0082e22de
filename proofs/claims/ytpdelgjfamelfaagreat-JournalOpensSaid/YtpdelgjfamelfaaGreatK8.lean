/- JournalOpens, walked. -/
import Derived.Test.YtpdelgjfamelfaaGreatK7b
import Derived.Deep.CutBlock
namespace Go.Proofs.YtpdelgjfamelfaaGreat
open Go.RowKit Go.Lib Go.Vfs Go.Par Go.Shelf
set_option linter.unusedVariables false
set_option linter.unusedSimpArgs false

theorem Duo.segW {W w : World} {p : Nat} {st : St} {F : Nat → Prop} {bm : Nat} {sm : St} {v : Value} {bn bd : Nat} {va vb : Value} {base log : List UInt8} (h : Duo W w p st F bm sm v bn bd va vb base log) (k : Nat) : Seg W W.heap.size (vK va vb k) (byteCells (dtK base log k)) := by
  unfold vK dtK
  split
  · exact h.sb
  · exact h.sa
theorem Duo.start {W w : World} {p : Nat} {F : Nat → Prop} (h : Held W.heap.size W w p ⟨-1, []⟩ F) {va vb : Value} {base log : List UInt8} (ha : Seg W W.heap.size va (byteCells base)) (hb : Seg W W.heap.size vb (byteCells log)) :
    Duo W (((w.alloc (.cells #[.int .i64 (-1), .slice none 0 0] 28)).alloc (.cells #[.string ⟨#[98, 97, 115, 101]⟩, .string ⟨#[108, 111, 103]⟩, .string ⟨#[110, 101, 120, 116]⟩] 29)).alloc (.cells #[va, vb, va] 30)) p ⟨-1, []⟩ F w.heap.size ⟨-1, []⟩ (.slice none 0 0) (w.heap.size + 1) (w.heap.size + 1 + 1) va vb base log := by
  have pr : Pair W (w.alloc (.cells #[.int .i64 (-1), .slice none 0 0] 28)) p ⟨-1, []⟩ F w.heap.size ⟨-1, []⟩ (.slice none 0 0) := ⟨h.go (Nat.le_refl _) (box_below w _), heap_alloc_new w _, h.size (Nat.le_refl _), fun hf => by have := h.fs.lt _ hf; omega, RefS.nil _ _⟩
  obtain ⟨X1, hX1⟩ : ∃ X1, X1 = w.alloc (.cells #[.int .i64 (-1), .slice none 0 0] 28) := ⟨_, rfl⟩
  have e1 : X1.heap.size = w.heap.size + 1 := by rw [hX1]; simp
  rw [← hX1] at pr ⊢
  have e2 : (X1.alloc (.cells #[.string ⟨#[98, 97, 115, 101]⟩, .string ⟨#[108, 111, 103]⟩, .string ⟨#[110, 101, 120, 116]⟩] 29)).heap.size = w.heap.size + 1 + 1 := by simp [e1]
  have n1 := heap_alloc_new X1 (.cells #[.string ⟨#[98, 97, 115, 101]⟩, .string ⟨#[108, 111, 103]⟩, .string ⟨#[110, 101, 120, 116]⟩] 29)
  rw [e1] at n1
  have n2 := heap_alloc_new (X1.alloc (.cells #[.string ⟨#[98, 97, 115, 101]⟩, .string ⟨#[108, 111, 103]⟩, .string ⟨#[110, 101, 120, 116]⟩] 29)) (.cells #[va, vb, va] 30)
  rw [e2] at n2
  have hf : ∀ k, F k → k < w.heap.size := h.fs.lt
  exact ⟨(pr.go (box_below _ _)).go (box_below _ _), ((box_below _ _).block _ (by rw [e2]; omega)).trans n1, n2, ⟨fun h => by have := hf _ h; omega, by omega⟩, ⟨fun h => by have := hf _ h; omega, by omega⟩, ha, hb⟩

set_option maxRecDepth 100000 in
set_option maxHeartbeats 8000000 in
theorem journalOpens_walk (va vb : Value) (base log : List UInt8) (hlb : base.length ≤ 140737488351232) (hll : log.length ≤ 140737488351232) (has power : Int) (hpw : -9223372036854775808 ≤ power ∧ power ≤ 9223372036854775807) (W : World) (ha : Seg W W.heap.size va (byteCells base)) (hb : Seg W W.heap.size vb (byteCells log)) :
    Calls Tryz.prog 3 #[va, vb, .int .i64 has, .int .i64 power] W fun e W' => e = .returned (.bool true) ∧ Below W.heap.size W W' := by
  obtain ⟨Aa, ca, rfl, hca, hcma, -⟩ := ha.open_bytes
  obtain ⟨Ab, cb, rfl, hcb, hcmb, -⟩ := hb.open_bytes
  have HA := Lib.hid ha; have HB := Lib.hid hb; have HPW := Lib.hid hpw.2
  clear ha hb hpw
  go_enter Tryz.func3, Tryz.ntmps3
  go_wp2_with fail
  refine (jalive_any W).mono ?_
  rintro e w1 ⟨rfl, hb1⟩
  have HB1 := Lib.hid hb1
  clear hb1
  by_cases hsm : base.length + log.length ≤ 20000
  case neg =>
    have hbig : (20000 : Int) < (base.length : Int) + (log.length : Int) := by omega
    go_wp2
    go_ret
    exact ⟨rfl, HB1.out⟩
  case pos =>
    have hbig : ¬ (20000 : Int) < (base.length : Int) + (log.length : Int) := by omega
    go_wp2_with fail
    refine (new_fs (-1) _).mono ?_
    rintro e w2 ⟨p, F2, rfl, hfs, hF, hb2⟩
    have h2 : Held W.heap.size W w2 p ⟨-1, []⟩ F2 := ⟨hfs, fun k hk => Nat.le_trans HB1.out.size (hF k hk).1, HB1.out.trans (hb2.mono HB1.out.size)⟩
    have HD := Lib.hid (Duo.start h2 HA.out HB.out)
    clear hfs hF hb2 h2 HB1
    go_wp2
    obtain ⟨bm, hbm⟩ : ∃ bm, bm = w2.heap.size := ⟨_, rfl⟩
    rw [← hbm] at HD ⊢
    clear hbm
    have HO0 := Lib.hid (OpI.mk (k := 0) HD.out (Calm.nil.mono (Nat.zero_le _) (Nat.zero_le _)) (show (-1 : Int) ≤ 9223372036854775807 by decide))
    clear HD
    go_loopw [13] (fun i wr => ∃ (k : Nat) (F : Nat → Prop) (st : St) (v : Value), k ≤ 3 ∧ i = .int .i64 k ∧ Hid (OpI W wr p st F bm v (bm + 1) (bm + 1 + 1) (.slice Aa base.length ca) (.slice Ab log.length cb) base log k)) (fun i _ => 3 - (intOf i).toNat)
    case atStart => exact ⟨0, _, _, _, by omega, rfl, HO0⟩
    case round =>
      clear HO0
      obtain ⟨k, F, st, v, hk, rfl, HO⟩ := hrel
      by_cases hlt : k < 3
      ·
        --<C
        have hseg := HO.out.duo.segW k
        obtain ⟨z0, z1⟩ := HO.out.duo.cells hlt
        generalize hL : dtK base log k = L at hseg
        have HL := Lib.hid hL
        clear hL
        obtain ⟨A1, c1, hv, -⟩ := hseg.open_bytes
        rw [hv] at hseg z1
        have HSEG := Lib.hid hseg; have HV := Lib.hid hv
        clear hv hseg
        have hn1 : ¬ bm + 1 = wr.heap.size := by have := HO.out.duo.nlt; omega
        have hn2 : ¬ bm + 1 + 1 = wr.heap.size := by have := HO.out.duo.nlt; omega
        have hki : (k : Int) < 3 := by omega
        go_upto_block 1 with fail
        go_cut [] from 35 to 79 (fun wx => ∃ (F' : Nat → Prop) (st' : St) (v' : Value), Hid (OpI W wx p st' F' bm v' (bm + 1) (bm + 1 + 1) (.slice Aa base.length ca) (.slice Ab log.length cb) base log (k + 1)))
        case first =>
          go_upto_if 44 with fail
          generalize (bits BinOp.and IntKind.i64 (has / 2 ^ k) 1 == 1) = bit
          cases bit
          · have HS := Lib.hid HO.out.skip
            clear HO
            go_wp2
            go_meet
            exact ⟨_, _, _, HS⟩
          · have hlL : L.length ≤ 20000 := by rw [← HL.out]; unfold dtK; split <;> omega
            have hkc : k * 20000 ≤ 60000 := by omega
            have HCP := Lib.hid ((HO.out.duo.go ((Below.refl _ _).drew)).copy hlt HSEG.out (by omega))
            have HMD := Lib.hid (HO.out.calm.modest (n := L.length) HO.out.power (by omega) (by omega))
            go_upto_region 15 with fail
            go_cut [] from 45 to 79 (fun wx => ∃ (F1 : Nat → Prop), Hid (Duo W wx p (stAppend st (nmK k) L).1 F1 bm st v (bm + 1) (bm + 1 + 1) (.slice Aa base.length ca) (.slice Ab log.length cb) base log))
            case first =>
              --<A
              go_region_with (first
                | (go_at_call 8; refine HCP.out.mono ?_; rintro e w5 ⟨A5, c5, rfl, HS5, HD5, y0, y1⟩; have y2 := HD5.out.nlt.1)
                | (go_at_call 7; refine (HD5.out.append k HS5.out HMD.out).mono ?_; rintro e w6 ⟨F6, er6, rfl, HD6⟩))
              all_goals (
                go_wp2_with fail
                go_meet
                exact ⟨F6, HD6⟩)
              --A>
            case rest =>
              obtain ⟨F1, HD1⟩ := hcut
              clear HCP HMD z0 z1
              have HP1 : Hid ((stAppend st (nmK k) L).1.power ≤ 9223372036854775807) := Lib.hid (append_power HO.out.power _ _)
              have HFL : Hid (st.files.length ≤ 900000 ∧ ∀ f ∈ st.files, f.data.length ≤ 1000000) := Lib.hid ⟨by have := HO.out.calm.files; omega, fun f hf => by have := HO.out.calm.data f hf; omega⟩
              have HFL2 : Hid ((stAppend st (nmK k) L).1.files.length ≤ 900000) := Lib.hid (by have := (append_calm HO.out.calm (nmK k) L).files; omega)
              have HPW0 : Hid (st.power ≤ 9223372036854775807) := Lib.hid HO.out.power
              obtain ⟨z0, z1⟩ := HD1.out.cells hlt
              go_wp2_with fail
              refine (HD1.out.sync k HP1.out).mono ?_
              rintro e w7 ⟨F7, er7, rfl, HD7⟩
              clear z0 z1 HD1
              obtain ⟨z0, z1⟩ := HD7.out.cells hlt
              rw [show vK (.slice Aa base.length ca) (.slice Ab log.length cb) k = .slice A1 L.length c1 from HV.out] at z1
              obtain ⟨x0, x1, x2, x3⟩ := HD7.out.pair.cells
              have m1 : bm < w7.heap.size := HD7.out.pair.lt
              have m2 := HD7.out.nlt.1
              have m3 := HD7.out.nlt.2
              have HRA := Lib.hid ((HD7.out.go ((Below.refl _ _).drew)).rappend k HSEG.out (by omega) HPW0.out HFL.out.1 HFL.out.2)
              go_upto_region 17 with fail
              go_cut [] from 61 to 79 (fun wx => ∃ (v1 : Value), Hid (Duo W wx p (stSync (stAppend st (nmK k) L).1 (nmK k)).1 F7 bm (stAppend st (nmK k) L).1 v1 (bm + 1) (bm + 1 + 1) (.slice Aa base.length ca) (.slice Ab log.length cb) base log))
              case first =>
                --<B
                go_region_with (first
                  | (go_at_call 10; refine HRA.out.mono ?_; rintro e w8 ⟨A8, n8, c8, er8, rfl, HD8, y0, y1, y2, y3⟩))
                all_goals (
                  go_wp2_with fail
                  go_meet
                  exact ⟨_, Lib.hid HD8.out.store⟩)
                --B>
              case rest =>
                obtain ⟨v1, HD8⟩ := hcut
                clear z0 z1 x0 x1 x2 x3 m1 m2 m3 HRA HD7
                obtain ⟨z0, z1⟩ := HD8.out.cells hlt
                obtain ⟨x0, x1, x2, x3⟩ := HD8.out.pair.cells
                have m1 : bm < wc.heap.size := HD8.out.pair.lt
                have m2 := HD8.out.nlt.1
                have HRS := Lib.hid ((HD8.out.go ((Below.refl _ _).drew)).rsync k HP1.out HFL2.out)
                go_upto_region 18 with fail
                have HFIN := Lib.hid fun (w' : World) (v' : Value) (hd : Duo W w' p (stSync (stAppend st (nmK k) L).1 (nmK k)).1 F7 bm (stSync (stAppend st (nmK k) L).1 (nmK k)).1 v' (bm + 1) (bm + 1 + 1) (.slice Aa base.length ca) (.slice Ab log.length cb) base log) => HO.out.laidL hsm HL.out hd
                go_region_with (first
                  | (go_at_call 11; refine HRS.out.mono ?_; rintro e w9 ⟨A9, n9, c9, er9, rfl, HD9, y0, y1, y2, y3⟩))
                all_goals (
                  go_wp2_with fail
                  go_meet
                  exact ⟨_, _, _, Lib.hid (HFIN.out _ _ HD9.out.store)⟩)
        case rest =>
          obtain ⟨F', st', v', HO'⟩ := hcut
          clear z0 z1 HO
          go_wp2
          go_roundw
          case rel => exact ⟨k + 1, F', st', v', by omega, by go_num, HO'⟩
          case measure => simp [intOf]; omega
        --C>
      · have hk3 : k = 3 := by omega
        subst hk3
        have HC : Hid (Calm st.files 6 60000) := Lib.hid HO.out.calm
        have PR := Lib.hid HO.out.duo.pair
        clear HO hlt hk
        go_wp2_with fail
        refine (PR.out.crash (keeps := []) HC.out (by omega) (by omega) (Seg.nil _ _) power).mono ?_
        rintro e w4 ⟨p4, F4, rfl, HP4, -, HB4⟩
        have HC1 : Hid (Calm (stCrash st [] power).files 6 60000) := Lib.hid (HC.out.crash [] 0)
        have hjo := jopen_any w4 p4 (stCrash st [] power) F4 HP4.out.held.fs HC1.out (by omega) (by omega) HPW.out
        obtain ⟨r, hr⟩ : ∃ r, openSt (stCrash st [] power) = r := ⟨_, rfl⟩
        have HCR : Hid (Calm r.1.files 7 60000) := Lib.hid (by rw [← hr]; exact open_calm HC1.out)
        have HR := Lib.hid hr
        rw [hr] at hjo
        have HJO := Lib.hid hjo
        clear hr hjo PR
        go_wp2_with fail
        refine HJO.out.mono ?_
        rintro e w5 hop
        obtain ⟨F5, jv, rfl, g1, g2, g3, g4⟩ := hop.both
        have HP5 := Lib.hid (HP4.out.op g1 g2 g3)
        have HJ5 := Lib.hid g4
        clear hop g1 g2 g3 g4 HJO HP4
        obtain ⟨x0, x1, x2, x3⟩ := HP5.out.cells
        go_wp2_with fail
        refine (HP5.out.rcrash (keeps := []) HC.out (by omega) (by omega) (Seg.nil _ _) power).mono ?_
        rintro e w6 ⟨A6, n6, c6, rfl, HP6, HR6, HB6⟩
        obtain ⟨A6', c6', hf6, -, -⟩ := HR6.out.form
        injection hf6 with hf6a hf6b hf6c
        have hro := open_any (stCrash st [] power) HPW.out A6 c6 (PS W w6 F5 bm) w6 (fun b hb => hb.2.1) (by rw [show (stCrash st [] power).files.length = n6 from hf6b.symm]; exact HR6.out) (by have := HC1.out.files; omega) (fun f hf => by have := HC1.out.data f hf; omega)
        rw [HR.out, ← show n6 = (stCrash st [] power).files.length from hf6b] at hro
        have HRO := Lib.hid hro
        have HJ6 : Hid (∀ w, Below w6.heap.size w6 w → Below w5.heap.size w5 w) := Lib.hid fun w hw => HB6.out.trans (hw.mono HB6.out.size)
        clear hf6a hf6b hf6c hro x0 x1 x2 x3 HP5 HR6 HB6
        obtain ⟨x0, x1, x2, x3⟩ := HP6.out.cells
        go_wp2_with fail
        refine HRO.out.mono ?_
        rintro e w7 hop
        obtain ⟨A7, n7, c7, gen, Ab7, nb7, cb7, Ar7, nr7, cr7, rfl, HR7, HB7, HX7⟩ := hop.both
        clear hop HRO x0 x1 x2 x3
        have h7 := HB7.out
        obtain ⟨X8, hX8⟩ : ∃ X8, X8 = w7.alloc (.cells #[.int .i64 r.1.power, .slice A7 n7 c7, .int .i64 gen, .slice Ab7 nb7 cb7, .slice Ar7 nr7 cr7] 45) := ⟨_, rfl⟩
        have b8 : Below w7.heap.size w7 X8 := by rw [hX8]; exact box_below w7 _
        have n8 : X8.heap[w7.heap.size]? = some (.cells #[.int .i64 r.1.power, .slice A7 n7 c7, .int .i64 gen, .slice Ab7 nb7 cb7, .slice Ar7 nr7 cr7] 45 (0, 0)) := by rw [hX8]; exact heap_alloc_new w7 _
        have HS8 : Hid (∀ w, Below X8.heap.size X8 w → Calls Tryz.prog 16 #[.pointer (some ⟨p4, 0, none⟩), .agg #[.int .i64 r.1.power, .slice A7 n7 c7]] w fun e w' => e = .returned (.bool true) ∧ Hid (Below w.heap.size w w')) := Lib.hid fun w hw => by
          have hw7 : Below w7.heap.size w7 w := b8.trans (hw.mono b8.size)
          have hw6 : Below w6.heap.size w6 w := h7.trans (hw7.mono h7.size)
          refine (sameFiles_any r.1 p4 F5 (.slice A7 n7 c7) (New (PS W w6 F5 bm) w6 w7) w (HP6.out.go hw6).held.fs (fun b hb => ?_) (HR7.out.keep fun b hb => ⟨hb, ?_⟩) 7 60000 HCR.out (by omega) (by omega)).mono (fun e w' ⟨x, y⟩ => ⟨x, Lib.hid y⟩)
          · have := New.lt (S := PS W w6 F5 bm) (w := w6) (w' := w7) (fun b hb => hb.2.1) h7.size b hb
            have := hw7.size
            omega
          · exact hw7.block b (New.lt (S := PS W w6 F5 bm) (w := w6) (w' := w7) (fun b hb => hb.2.1) h7.size b hb)
        have HB8 : Hid (Below w6.heap.size w6 X8 ∧ Below w7.heap.size w7 X8) := Lib.hid ⟨h7.trans (b8.mono h7.size), b8⟩
        have HN8 := Lib.hid n8
        rw [hX8] at HS8 HB8 HN8
        clear h7 b8 n8 hX8
        obtain ⟨er, her⟩ : ∃ er, er = resErr r.2 := ⟨_, rfl⟩
        rw [← her]
        have HER := Lib.hid her
        clear her
        go_wp2_with fail
        refine (HS8.out _ (Below.refl _ _)).mono ?_
        rintro e w9 ⟨rfl, HB9⟩
        have hne : (er != er) = false := by simp
        have heq : (er == er) = true := by simp
        have n9 : w9.heap[w7.heap.size]? = some (.cells #[.int .i64 r.1.power, .slice A7 n7 c7, .int .i64 gen, .slice Ab7 nb7 cb7, .slice Ar7 nr7 cr7] 45 (0, 0)) := (HB9.out.block _ (lt_of_block HN8.out)).trans HN8.out
        have hc9 : w9.cell? ⟨w7.heap.size, 0, none⟩ = some (.int .i64 r.1.power) ∧ w9.cell? ⟨w7.heap.size, 1, none⟩ = some (.slice A7 n7 c7) ∧ w9.cell? ⟨w7.heap.size, 2, none⟩ = some (.int .i64 gen) ∧ w9.cell? ⟨w7.heap.size, 3, none⟩ = some (.slice Ab7 nb7 cb7) ∧ w9.cell? ⟨w7.heap.size, 4, none⟩ = some (.slice Ar7 nr7 cr7) := by simp [World.cell?, n9]
        obtain ⟨y0, y1, y2, y3, y4⟩ := hc9
        clear n9
        have HW9 : Hid (Below w6.heap.size w6 w9 ∧ Below w7.heap.size w7 w9) := Lib.hid ⟨HB8.out.1.trans (HB9.out.mono HB8.out.1.size), HB8.out.2.trans (HB9.out.mono HB8.out.2.size)⟩
        cases hres : r.2 with
        | error n =>
          have hjv : jv = none := by have := HJ5.out; unfold JRes at this; rw [hres] at this; exact this
          have her : er = n := by have := HER.out; rw [hres] at this; exact this
          have hn0 := open_error (st' := r.1) (n := n) (show openSt (stCrash st [] power) = (r.1, .error n) by rw [HR.out, ← hres])
          have her0 : (er != 0) = true := by rw [her]; simpa using hn0
          have HCALL := Lib.hid (HS8.out _ HB9.out)
          subst hjv
          clear hres her hn0
          go_wp2_with fail
          refine HCALL.out.mono ?_
          rintro e w10 ⟨rfl, HB10⟩
          go_wp2
          go_ret
          exact ⟨rfl, (HP6.out.go HW9.out.1).held.below.trans (HB10.out.mono (HP6.out.go HW9.out.1).sz)⟩
        | ok x =>
          have hj5 := HJ5.out
          unfold JRes at hj5
          rw [hres] at hj5
          obtain ⟨pj, G, rfl, hjf, -⟩ := hj5
          have hx7 := HX7.out
          unfold RRes at hx7
          rw [hres] at hx7
          obtain ⟨-, hx8, hx9⟩ := hx7
          obtain ⟨⟨l1, l2⟩, ⟨l3, l4⟩, -⟩ := open_le HC1.out (st' := r.1) (x := x) (by rw [HR.out, ← hres])
          clear hres
          obtain ⟨gx, bx, lx⟩ := x
          simp only at hjf hx8 hx9 l1 l2 l3 l4
          obtain ⟨_, _, hfb, -⟩ := (hx8.sub (S' := (· < w7.heap.size)) fun b hb => hb.2).open_
          obtain ⟨_, _, hfr, -⟩ := (hx9.sub (S' := (· < w7.heap.size)) fun b hb => hb.2).open_
          injection hfb with hfb1 hfb2 hfb3
          injection hfr with hfr1 hfr2 hfr3
          have hw5 : Below w5.heap.size w5 w9 := HJ6.out _ HW9.out.1
          have HPB : Hid (Below W.heap.size W w9 ∧ W.heap.size ≤ w9.heap.size) := Lib.hid ⟨(HP6.out.go HW9.out.1).held.below, (HP6.out.go HW9.out.1).sz⟩
          have HJF := Lib.hid (hjf.below hw5)
          have HBX : Hid (RowsAt (· < w9.heap.size) w9 (.slice Ab7 nb7 cb7) bx) := Lib.hid (hx8.keep fun b hb => ⟨by have := HW9.out.2.size; omega, HW9.out.2.block b hb.2⟩)
          have HLX : Hid (RowsAt (· < w9.heap.size) w9 (.slice Ar7 nr7 cr7) lx) := Lib.hid (hx9.keep fun b hb => ⟨by have := HW9.out.2.size; omega, HW9.out.2.block b hb.2⟩)
          have HN9 : Hid (w9.heap[w7.heap.size]? = some (.cells #[.int .i64 r.1.power, .slice A7 n7 c7, .int .i64 gen, .slice Ab7 nb7 cb7, .slice Ar7 nr7 cr7] 45 (0, 0))) := Lib.hid ((HB9.out.block _ (lt_of_block HN8.out)).trans HN8.out)
          have HSZ : Hid ((bx.length ≤ 1000000 ∧ ∀ l ∈ bx, l.length ≤ 1000000) ∧ (lx.length ≤ 1000000 ∧ ∀ l ∈ lx, l.length ≤ 1000000)) := Lib.hid ⟨⟨by omega, fun l hl => by have := l2 l hl; omega⟩, ⟨by omega, fun l hl => by have := l4 l hl; omega⟩⟩
          have HC5 : Hid (∀ w, Below w9.heap.size w9 w → w.cell? ⟨w7.heap.size, 0, none⟩ = some (.int .i64 r.1.power) ∧ w.cell? ⟨w7.heap.size, 1, none⟩ = some (.slice A7 n7 c7) ∧ w.cell? ⟨w7.heap.size, 2, none⟩ = some (.int .i64 gen) ∧ w.cell? ⟨w7.heap.size, 3, none⟩ = some (.slice Ab7 nb7 cb7) ∧ w.cell? ⟨w7.heap.size, 4, none⟩ = some (.slice Ar7 nr7 cr7)) := Lib.hid fun w hw => by
            have := (hw.block _ (lt_of_block HN9.out)).trans HN9.out
            simp [World.cell?, this]
          obtain ⟨M, hM⟩ : ∃ M, M = (bx ++ lx).length := ⟨_, rfl⟩
          have HM := Lib.hid hM
          have HJR : Hid (∀ w, Below w9.heap.size w9 w → Calls Tryz.prog 18 #[.pointer (some ⟨pj, 0, none⟩)] w fun e w' => ∃ A c, e = .returned (.slice A M c) ∧ Hid (RowsAt (· < w'.heap.size) w' (.slice A M c) (bx ++ lx)) ∧ Hid (Below w9.heap.size w9 w') ∧ Hid (Below w.heap.size w w') ∧ (w'.cell? ⟨w7.heap.size, 0, none⟩ = some (.int .i64 r.1.power) ∧ w'.cell? ⟨w7.heap.size, 1, none⟩ = some (.slice A7 n7 c7) ∧ w'.cell? ⟨w7.heap.size, 2, none⟩ = some (.int .i64 gen) ∧ w'.cell? ⟨w7.heap.size, 3, none⟩ = some (.slice Ab7 nb7 cb7) ∧ w'.cell? ⟨w7.heap.size, 4, none⟩ = some (.slice Ar7 nr7 cr7))) := Lib.hid fun w hw => by
            refine (jrecords_any (HJF.out.below hw).js HSZ.out.1.1 HSZ.out.2.1 HSZ.out.1.2 HSZ.out.2.2).mono ?_
            rintro e w' ⟨u, us, rfl, hr⟩
            have hb := hw.trans (hr.below.mono hw.size)
            have hr2 := hr.rows.sub (S' := (· < w'.heap.size)) fun b hb => hb.2
            obtain ⟨A, c, rfl, -, -, -⟩ := hr2.open_
            rw [← HM.out] at hr2 ⊢
            exact ⟨A, c, rfl, Lib.hid hr2, Lib.hid hb, Lib.hid hr.below, HC5.out _ hb⟩
          have HRR : Hid (∀ w, Below w9.heap.size w9 w → Calls Tryz.prog 19 #[.agg #[.int .i64 r.1.power, .slice A7 n7 c7, .int .i64 gen, .slice Ab7 nb7 cb7, .slice Ar7 nr7 cr7]] w fun e w' => ∃ A c, e = .returned (.slice A M c) ∧ Hid (RowsAt (· < w'.heap.size) w' (.slice A M c) (bx ++ lx)) ∧ Hid (Below w9.heap.size w9 w') ∧ Hid (Below w.heap.size w w') ∧ (w'.cell? ⟨w7.heap.size, 0, none⟩ = some (.int .i64 r.1.power) ∧ w'.cell? ⟨w7.heap.size, 1, none⟩ = some (.slice A7 n7 c7) ∧ w'.cell? ⟨w7.heap.size, 2, none⟩ = some (.int .i64 gen) ∧ w'.cell? ⟨w7.heap.size, 3, none⟩ = some (.slice Ab7 nb7 cb7) ∧ w'.cell? ⟨w7.heap.size, 4, none⟩ = some (.slice Ar7 nr7 cr7))) := Lib.hid fun w hw => by
            refine (rrecords_any r.1.power gen A7 Ab7 Ar7 n7 c7 nb7 cb7 nr7 cr7 bx lx w (HBX.out.keep fun b hb => ⟨Nat.lt_of_lt_of_le hb hw.size, hw.block b hb⟩) (HLX.out.keep fun b hb => ⟨Nat.lt_of_lt_of_le hb hw.size, hw.block b hb⟩) (by have := HSZ.out.1.1; omega) (by have := HSZ.out.2.1; omega) HSZ.out.1.2 HSZ.out.2.2).mono ?_
            rintro e w' ⟨u, rfl, hr, hbb⟩
            have hb := hw.trans (hbb.mono hw.size)
            have hr2 := hr.sub (S' := (· < w'.heap.size)) fun b hb => hb.2
            obtain ⟨A, c, rfl, -, -, -⟩ := hr2.open_
            rw [← HM.out] at hr2 ⊢
            exact ⟨A, c, rfl, Lib.hid hr2, Lib.hid hb, Lib.hid hbb, HC5.out _ hb⟩
          have HSR : Hid (∀ (w : World) (u1 u2 : Value), Below w9.heap.size w9 w → RowsAt (· < w.heap.size) w u1 (bx ++ lx) → RowsAt (· < w.heap.size) w u2 (bx ++ lx) → Calls Tryz.prog 17 #[u1, u2] w fun e w' => e = .returned (.bool true) ∧ ∃ n, w' = w.drewN n) := Lib.hid fun w u1 u2 hw h1 h2 => by
            have := sameRows_any u1 u2 _ _ w h1 h2
            rw [decide_eq_true rfl] at this
            exact this
          have HLG : Hid (∀ w, Below w9.heap.size w9 w → Calls Tryz.prog 20 #[.pointer (some ⟨pj, 0, none⟩)] w fun e w' => e = .returned (.int .i64 (nr7 : Nat)) ∧ ∃ n, w' = w.drewN n) := Lib.hid fun w hw => by
            have := jlog_any (HJF.out.below hw)
            rw [← hfr2] at this
            exact this
          have HR0 : Hid (Below w9.heap.size w9 w9.drew) := Lib.hid ((Below.refl _ w9).drew)
          clear hjf hx8 hx9 l1 l2 l3 l4 hfb1 hfb2 hfb3 hfr1 hfr2 hfr3 hw5 hM
          go_wp2_with fail
          go_upto_region 26 with fail
          go_region_with (first
            | (go_at_call 18; refine (HJR.out _ HR0.out).mono ?_; rintro e w10 ⟨A10, c10, rfl, HSJ, HBJ, HDJ, z0, z1, z2, z3, z4⟩)
            | (go_at_call 19; refine (HRR.out _ HBJ.out).mono ?_; rintro e w11 ⟨A11, c11, rfl, HSR1, HBR, HDR, t0, t1, t2, t3, t4⟩)
            | (go_at_call 19; refine (HRR.out _ HR0.out).mono ?_; rintro e w10 ⟨A11, c11, rfl, HSR1, HBR, HDR, z0, z1, z2, z3, z4⟩)
            | (go_at_call 18; refine (HJR.out _ HBR.out).mono ?_; rintro e w11 ⟨A10, c10, rfl, HSJ, HBJ, HDJ, t0, t1, t2, t3, t4⟩)
            | (go_at_call 17; refine (HSR.out _ _ _ HBR.out (HSJ.out.keep fun b hb => ⟨Nat.lt_of_lt_of_le hb HDR.out.size, HDR.out.block b hb⟩) HSR1.out).mono ?_; rintro e w12 ⟨rfl, n12, rfl⟩; have HBZ := Lib.hid (below_drewN HBR.out n12))
            | (go_at_call 17; refine (HSR.out _ _ _ HBJ.out HSJ.out (HSR1.out.keep fun b hb => ⟨Nat.lt_of_lt_of_le hb HDJ.out.size, HDJ.out.block b hb⟩)).mono ?_; rintro e w12 ⟨rfl, n12, rfl⟩; have HBZ := Lib.hid (below_drewN HBJ.out n12))
            | (go_at_call 20; refine (HLG.out _ HBZ.out).mono ?_; rintro e w13 ⟨rfl, n13, rfl⟩))
          all_goals (
            go_wp2
            go_ret
            first
            | exact ⟨rfl, HPB.out.1.trans ((below_drewN HBR.out _).mono HPB.out.2)⟩
            | exact ⟨rfl, HPB.out.1.trans ((below_drewN HBJ.out _).mono HPB.out.2)⟩)
end Go.Proofs.YtpdelgjfamelfaaGreat
