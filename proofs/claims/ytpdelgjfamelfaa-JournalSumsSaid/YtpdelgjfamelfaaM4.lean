/- Merged of V29 V30. -/
import Derived.Test.YtpdelgjfamelfaaM3
import Derived.Deep.QuietTactic
import Derived.BigQuiet
/- V29 -/
/- Plain: what was synced outlasts a crash. -/
namespace Go.Proofs.Ytpdelgjfamelfaa
open Go.RowKit Go.Lib Go.Vfs Go.Par
set_option linter.unusedVariables false
set_option linter.unusedSimpArgs false

theorem actSt_m1 (fs : List File) (o : OpR) : ∃ fs', (actSt ⟨-1, fs⟩ o).1 = ⟨-1, fs'⟩ := by
  refine ⟨(actSt ⟨-1, fs⟩ o).1.files, ?_⟩
  have h : (actSt ⟨-1, fs⟩ o).1.power = -1 := by
    rcases power_act ⟨-1, fs⟩ o with e | e <;> rw [e] <;> rfl
  cases hst : (actSt ⟨-1, fs⟩ o).1
  rw [hst] at h
  simp only at h
  rw [h]
theorem cutN_ge (k : Int) (f : File) : f.safe ≤ cutN k f := by unfold cutN; omega
theorem cutN_le2 (k : Int) (f : File) (h : f.safe ≤ f.data.length) : cutN k f ≤ f.data.length := by unfold cutN; omega
theorem findL_crash (keeps : List Int) (s : List UInt8) : ∀ (l : List File) (i : Nat) (f : File), findL File.name s l = some f → ∃ j, findL File.name s (crashL keeps i l) = some (crashF keeps j f)
  | [], i, f, h => by simp [findL] at h
  | g :: l, i, f, h => by
    rw [findL_cons] at h
    rw [crashL, findL_cons]
    split at h
    · rename_i hg
      cases h
      exact ⟨i, by rw [if_pos (by exact hg)]⟩
    · rename_i hg
      obtain ⟨j, hj⟩ := findL_crash keeps s l (i + 1) f h
      exact ⟨j, by rw [if_neg (by exact hg), hj]⟩
theorem mem_crashL (keeps : List Int) : ∀ (l : List File) (i : Nat) (f : File), f ∈ crashL keeps i l → ∃ j g, g ∈ l ∧ f = crashF keeps j g
  | [], i, f, h => by simp [crashL] at h
  | g :: l, i, f, h => by
    rw [crashL] at h
    rcases List.mem_cons.1 h with rfl | h
    · exact ⟨i, g, by simp, rfl⟩
    · obtain ⟨j, g', h1, h2⟩ := mem_crashL keeps l (i + 1) f h
      exact ⟨j, g', by simp [h1], h2⟩
theorem Calm.crash {fs : List File} {k d : Nat} (h : Calm fs k d) (keeps : List Int) (i : Nat) : Calm (crashL keeps i fs) k d := by
  refine ⟨by rw [crashL_length]; exact h.files, fun f hf => ?_, fun f hf => ?_, fun f hf => ?_⟩ <;> obtain ⟨j, g, hg, rfl⟩ := mem_crashL keeps fs i f hf
  · exact h.names g hg
  · have := h.data g hg; simp only [crashF, List.length_take]; omega
  · have := cutN_le2 (cutK keeps j) g (h.safe g hg); simp only [crashF, List.length_take]; omega
theorem Calm.short {fs : List File} {k d : Nat} (h : Calm fs k d) : ∀ f ∈ fs, f.name.length ≤ 100000 := fun f hf => by have := name_len (h.names f hf); omega

theorem findL_app {s L : List UInt8} {fs : List File} : findL File.name s (appF s L fs) = some (match findL File.name s fs with | some f => ⟨s, f.data ++ L, f.safe⟩ | none => ⟨s, L, 0⟩) := by
  unfold appF
  have h := findL_withL_self (key := File.name) (match findL File.name s fs with | some f => ⟨s, f.data ++ L, f.safe⟩ | none => ⟨s, L, 0⟩ : File) fs
  have e : File.name (match findL File.name s fs with | some f => ⟨s, f.data ++ L, f.safe⟩ | none => ⟨s, L, 0⟩ : File) = s := by split <;> rfl
  rw [e] at h
  exact h

/-- the law: what is read under a synced name behind a crash. -/
theorem safe_law (fs : List File) (s more : List UInt8) (keeps : List Int) (hn : nameB s = true) (k D : Nat) (hc : Calm fs k D) :
    ∃ (d : List UInt8) (n : Nat) (f1 f2 f3 : List File), stAppend ⟨-1, fs⟩ s [] = (⟨-1, f1⟩, 0) ∧ Calm f1 (k + 1) D ∧ stSync ⟨-1, f1⟩ s = (⟨-1, f2⟩, 0) ∧ Calm f2 (k + 2) D ∧ stFind ⟨-1, f2⟩ s = .ok ⟨s, d, d.length⟩ ∧ d.length ≤ D ∧
      stAppend ⟨-1, f2⟩ s more = (⟨-1, f3⟩, 0) ∧ Calm f3 (k + 3) (D + more.length) ∧ d.length ≤ n ∧ n ≤ d.length + more.length ∧
      stFind (stCrash ⟨-1, f3⟩ keeps (-1)) s = .ok ⟨s, d ++ more.take (n - d.length), n⟩ ∧ stFind (stCrash (stCrash ⟨-1, f3⟩ keeps (-1)) [] (-1)) s = .ok ⟨s, d ++ more.take (n - d.length), n⟩ ∧
      (stCrash (stCrash ⟨-1, f3⟩ keeps (-1)) [] (-1)).files.map File.name = f3.map File.name := by
  have c1 := hc.app (L := []) hn
  rw [List.length_nil, Nat.add_zero] at c1
  have h1 := findL_app (s := s) (L := []) (fs := fs)
  obtain ⟨d, sf, hd⟩ : ∃ d sf, findL File.name s (appF s [] fs) = some ⟨s, d, sf⟩ := by
    rw [h1]; split
    · exact ⟨_, _, rfl⟩
    · exact ⟨_, _, rfl⟩
  clear h1
  generalize hf1 : appF s [] fs = f1 at *
  have hdD := c1.data _ (findL_some hd).1
  simp only at hdD
  have c2 := c1.withL (f := ⟨s, d, d.length⟩) hn hdD (Nat.le_refl _)
  have h2 : findL File.name s (withL File.name ⟨s, d, d.length⟩ f1) = some ⟨s, d, d.length⟩ := findL_withL_self (key := File.name) ⟨s, d, d.length⟩ f1
  have e2 : stSync ⟨-1, f1⟩ s = (⟨-1, withL File.name ⟨s, d, d.length⟩ f1⟩, 0) := by
    rw [stSync_ok (stFind_of (st := ⟨-1, f1⟩) hn hd)]; rfl
  generalize hf2 : withL File.name ⟨s, d, d.length⟩ f1 = f2 at *
  have h3 := findL_app (s := s) (L := more) (fs := f2)
  rw [h2] at h3
  simp only at h3
  have c3 := c2.app (L := more) hn
  generalize hf3 : appF s more f2 = f3 at *
  obtain ⟨j, h4⟩ := findL_crash keeps s f3 0 _ h3
  have hsafe : d.length ≤ (d ++ more).length := by simp
  have g1 := cutN_ge (cutK keeps j) ⟨s, d ++ more, d.length⟩
  have g2 := cutN_le2 (cutK keeps j) ⟨s, d ++ more, d.length⟩ hsafe
  simp only [List.length_append] at g1 g2
  unfold crashF at h4
  simp only at h4
  generalize cutN (cutK keeps j) ⟨s, d ++ more, d.length⟩ = n at *
  have e4 : (d ++ more).take n = d ++ more.take (n - d.length) := by rw [List.take_append, List.take_of_length_le g1]
  rw [e4] at h4
  have hl4 : (d ++ more.take (n - d.length)).length = n := by simp; omega
  obtain ⟨j5, h5⟩ := findL_crash [] s (crashL keeps 0 f3) 0 _ h4
  have e5 : cutN (cutK [] j5) ⟨s, d ++ more.take (n - d.length), n⟩ = n := by
    have h0 : cutK [] j5 = 0 := by simp [cutK]
    rw [h0]; unfold cutN; simp
  have e6 : crashF [] j5 ⟨s, d ++ more.take (n - d.length), n⟩ = ⟨s, d ++ more.take (n - d.length), n⟩ := by
    unfold crashF
    rw [e5]
    congr 1
    exact List.take_of_length_le (by simp only; omega)
  rw [e6] at h5
  refine ⟨d, n, f1, f2, f3, ?_, c1, e2, c2, stFind_of hn h2, hdD, ?_, c3, g1, g2, stFind_of hn h4, stFind_of hn h5, ?_⟩
  · rw [stAppend_yes hn rfl, hf1]
  · rw [stAppend_yes hn rfl, hf3]
  · show (crashL [] 0 (crashL keeps 0 f3)).map File.name = _
    rw [crashL_names, crashL_names]

/-- where a script stands that is done with full power. -/
structure RunI (W w : World) (os : List OpR) (k : Nat) (p : Nat) (F : Nat → Prop) (fs : List File) : Prop where
  held : Held W.heap.size W w p ⟨-1, fs⟩ F
  calm : Calm fs k (sizeO (os.take k))
theorem RunI.act {W w w' : World} {os : List OpR} {k p : Nat} {F F' : Nat → Prop} {fs fs' : List File} (h : RunI W w os k p F fs) (hk : k < os.length) (hst : (actSt ⟨-1, fs⟩ os[k]).1 = ⟨-1, fs'⟩) (h1 : Fsy w' p ⟨-1, fs'⟩ F') (h2 : Kept F w w') (h3 : Grows w F F') : RunI W w' os (k + 1) p F' fs' := by
  refine ⟨h.held.op (Nat.le_refl _) h1 h2 h3, ?_⟩
  have := Calm.act (st := ⟨-1, fs⟩) h.calm os[k]
  rw [hst] at this
  exact this.mono (Nat.le_refl _) (by rw [sizeO_succ os k hk]; have := flat_sizeP os[k].parts; omega)
theorem RunI.op {W w : World} {os : List OpR} {k p : Nat} {F : Nat → Prop} {fs : List File} (h : RunI W w os k p F fs) (hk : k < os.length) (v : Value) (hs : SegO W W.heap.size v os) (hz : sizeO os ≤ 1000000) (hl : os.length ≤ 60) :
    Calls Try.prog 27 #[.pointer (some ⟨p, 0, none⟩), .agg #[.int .i64 os[k].what, .int .i64 os[k].n, .string os[k].name, .string os[k].other, os[k].pv, os[k].kv]] w fun e w' => ∃ er fs' F', e = .returned (.int .i64 er) ∧ (actSt ⟨-1, fs⟩ os[k]) = (⟨-1, fs'⟩, er) ∧ RunI W w' os (k + 1) p F' fs' := by
  have hop := (hs.op k hk).below h.held.below
  have hsz := sizeO_nth os k hk
  refine (act_any w p ⟨-1, fs⟩ F h.held.fs os[k] W.heap.size (h.held.size (Nat.le_refl _)) h.held.new hop (h.calm.modest (by simp only; decide) (by omega) (by omega)) (by omega)).mono ?_
  rintro e w' ⟨F', rfl, g1, g2, g3⟩
  obtain ⟨fs', hst⟩ := actSt_m1 fs os[k]
  rw [hst] at g1
  exact ⟨_, fs', F', rfl, by rw [← hst], h.act hk hst g1 g2 g3⟩
end Go.Proofs.Ytpdelgjfamelfaa
/- V30 -/
namespace Go.Proofs.Ytpdelgjfamelfaa
open Go.RowKit Go.Lib Go.Vfs Go.Par
set_option linter.unusedVariables false
set_option linter.unusedSimpArgs false

theorem slice_from (A : Option Addr) (n c N : Nat) (w : World) (h : N ≤ n) : (Instr.slice 22 (.slice A n c) (some (.int .i64 (N : Int))) none none).run Try.prog w = .ok (sliced A N n c 1) w := by
  have ht' : Try.prog.underlying 22 = some (.slice (Try.prog.elem 22)) := by simp [Program.elem, Try.underlying22]
  have he : Try.prog.elem 22 = 5 := by simp [Program.elem, Try.underlying22]
  rw [run_slice_l w 22 _ _ _ ht' .i64 _ (by omega) (by omega), he, Try.sizeOf5]
  simp [Result.andThen]
theorem seg_take {w : World} {B : Nat} {A : Option Addr} {c : Nat} {l : List UInt8} (h : Seg w B (.slice A l.length c) (byteCells l)) (k : Nat) (hk : k ≤ l.length) : k ≤ c ∧ Seg w B (.slice A k c) (byteCells (l.take k)) := by
  have hh : Seg w B (.slice A (l.take k ++ l.drop k).length c) (byteCells (l.take k ++ l.drop k)) := by rw [List.take_append_drop]; exact h
  have hl : (l.take k).length = k := by simp; omega
  have := seg_front hh
  rw [hl] at this
  exact this
theorem seg_drop {w : World} {B : Nat} {A : Option Addr} {c : Nat} {l : List UInt8} (h : Seg w B (.slice A l.length c) (byteCells l)) (k : Nat) (hk : k ≤ l.length) : ∃ A2 c2, sliced A k l.length c 1 = .slice A2 (l.length - k) c2 ∧ Seg w B (.slice A2 (l.length - k) c2) (byteCells (l.drop k)) := by
  obtain ⟨A', c', e, h2, h3, h4⟩ := h
  rw [byteCells_length] at e h2 h4
  cases e
  have hl : (byteCells (l.drop k)).length = l.length - k := by rw [byteCells_length]; simp
  by_cases hkl : k < l.length
  · obtain ⟨b, off, e, hb, hc⟩ := h4 (by omega)
    subst e
    have hs : sliced (some ⟨b, off, none⟩) k l.length c 1 = .slice (some ⟨b, off + k, none⟩) (l.length - k) (c - k) := by
      have hne : ¬ c = k := by omega
      unfold sliced
      by_cases h0 : k = 0
      · subst h0; simp [Addr.add]
      · simp [Addr.add, hne]
        omega
    refine ⟨_, _, hs, _, c - k, by rw [hl], by omega, by omega, fun hp => ⟨b, off + k, rfl, hb, fun i hi => ?_⟩⟩
    rw [hl] at hi
    rw [Nat.add_assoc, hc _ (by omega)]
    simp [byteCells]
  · have he : l.drop k = [] := List.drop_eq_nil_of_le (by omega)
    have hs : ∃ A2, sliced A k l.length c 1 = .slice A2 (l.length - k) (c - k) := by
      unfold sliced
      split <;> exact ⟨_, rfl⟩
    obtain ⟨A2, hs⟩ := hs
    refine ⟨A2, c - k, hs, A2, c - k, by rw [hl], by omega, by omega, fun h => by omega⟩
theorem wrap64 (x : Int) (h1 : -9223372036854775808 ≤ x) (h2 : x ≤ 9223372036854775807) : IntKind.i64.wrap x = x := by
  simp only [IntKind.wrap, IntKind.signed, IntKind.bits]
  simp
  omega
theorem rows_nil (S : Nat → Prop) (w : World) : RowsAt S w (.slice none 0 0) [] := ⟨[], rfl, ⟨none, 0, rfl, by simp, by simp [maxLen], fun h => by simp at h⟩, fun i hi => by simp at hi⟩
theorem Held.crash {B : Nat} {w0 w : World} {p : Nat} {st : St} {F : Nat → Prop} {k d : Nat} (h : Held B w0 w p st F) (hB : B ≤ w0.heap.size) (hc : Calm st.files k d) (hk : k ≤ 100000) (hd : d ≤ 2147483648) (kv : Value) (keeps : List Int) (hkv : Seg w w.heap.size kv (ints keeps)) (power : Int) :
    Calls Try.prog 18 #[.pointer (some ⟨p, 0, none⟩), kv, .int .i64 power] w fun e w' => ∃ p' F', e = .returned (.pointer (some ⟨p', 0, none⟩)) ∧ Held B w0 w' p' (stCrash st keeps power) F' ∧ Held B w0 w' p st F ∧ (∀ k, F' k → w.heap.size ≤ k) ∧ Below w.heap.size w w' := by
  refine (crash_any w p st F h.fs (Nat.le_trans hc.files hk) hc.short (fun f hf => Nat.le_trans (hc.data f hf) hd) kv keeps hkv power).mono ?_
  rintro e w' ⟨p', F', rfl, h1, h2, h3⟩
  have hs := h.size hB
  exact ⟨p', F', rfl, ⟨h1, fun k hk => Nat.le_trans hs (h2 k hk).1, h.below.trans (h3.mono hs)⟩, h.go hB h3, fun k hk => (h2 k hk).1, h3⟩

set_option maxRecDepth 20000 in
set_option maxHeartbeats 2000000 in
theorem vfsSafe_walk (v : Value) (os0 : List OpR) (hs : sizeO os0 ≤ 1048576) (s : ByteArray) (hsn : s.size ≤ 9223372036854775807) (vm : Value) (more : List UInt8) (hml : more.length ≤ 1048576) (vk : Value) (keeps : List Int) (hkl : keeps.length ≤ 1048576) (W : World) (h : SegO W W.heap.size v os0) (hm : Seg W W.heap.size vm (byteCells more)) (hkp : Seg W W.heap.size vk (ints keeps)) :
    Calls Try.prog 7 #[v, .string s, vm, vk] W fun e W' => e = .returned (.bool true) ∧ Below W.heap.size W W' := by
  obtain ⟨A0, c0, rfl, -, -⟩ := h.form
  obtain ⟨Am, cm, rfl, hmc, hmx, -⟩ := hm.open_bytes
  obtain ⟨Ak, ck, rfl, -⟩ := hkp.open_ints
  have HS := Lib.hid h; clear h
  have HM := Lib.hid hm; have HK := Lib.hid hkp; clear hm hkp
  have hB : W.heap.size ≤ W.heap.size := Nat.le_refl _
  go_enter Try.func7, Try.ntmps7
  go_wp2_with fail
  refine (alive_any W).mono ?_
  rintro e w1 ⟨rfl, hb1⟩
  have HB1 := Lib.hid hb1
  go_wp2_with fail
  refine (cut_any _ os0 W.heap.size w1 (HS.out.below hb1)).mono ?_
  rintro e w1' ⟨u, rfl, hu, rfl⟩
  have hs' : sizeO (os0.take 60) ≤ 1048576 := Nat.le_trans (sizeO_take os0 60) hs
  have hl60 : (os0.take 60).length ≤ 60 := by simp; omega
  generalize os0.take 60 = os at *
  clear hs HS hb1
  obtain ⟨A, c, rfl, hlc, hcm⟩ := hu.form
  have HU := Lib.hid hu; have HU4 := Lib.hid (hu.back HB1.out); clear hu
  go_wp2_with fail
  refine (great_any _ os _ w1' HU.out (by omega)).mono ?_
  rintro e w2 ⟨rfl, n2, rfl⟩
  by_cases hg : 5000 < sizeO os
  · rw [decide_eq_true hg]
    go_wp2
    go_ret
    exact ⟨rfl, below_drewN HB1.out _⟩
  rw [decide_eq_false hg]
  by_cases hp0 : (5000 : Int) < more.length
  · go_wp2
    go_ret
    exact ⟨rfl, below_drewN HB1.out _⟩
  go_wp2_with fail
  refine (new_fs (-1) _).mono ?_
  rintro e w3 ⟨p, F3, rfl, hfs3, hF3, hb3⟩
  have hs1 : W.heap.size ≤ w1'.heap.size := HB1.out.size
  have H3 : Hid (Held W.heap.size W w3 p ⟨-1, []⟩ F3) := Lib.hid ⟨hfs3, fun k hk => Nat.le_trans hs1 (hF3 k hk).1, (below_drewN HB1.out n2).trans (hb3.mono hs1)⟩
  clear hfs3 hF3 hb3 HB1 HU hs1
  go_wp2
  go_loopw [10] (fun i wr => ∃ (k : Nat) (fs : List File) (F : Nat → Prop), k ≤ os.length ∧ i = .int .i64 k ∧ Hid (RunI W wr os k p F fs)) (fun i _ => os.length - (intOf i).toNat)
  case atStart => exact ⟨0, [], F3, by omega, rfl, Lib.hid ⟨H3.out, Calm.nil⟩⟩
  case round =>
    obtain ⟨k, fs, F, hk, rfl, HP⟩ := hrel
    by_cases hlt : k < os.length
    · have hop := HU4.out.op k hlt
      have hact := HP.out.op hlt _ HU4.out (by omega) hl60
      obtain ⟨b, off, rfl, hb, hsix⟩ := HU4.out.six k hlt
      have hbel := HP.out.held.below
      replace hsix : Six wr b (off + k * 6) os[k] := hsix.kept (F := fun k => ¬ k < W.heap.size) ⟨hbel.os, hbel.tape, hbel.output, hbel.size, fun k _ hk => hbel.block k (by omega)⟩ (by omega) (by omega)
      obtain ⟨⟨A1, n1, c1, hpv⟩, A2, n2, c2, hkv⟩ := hop.forms
      generalize os[k] = o at *
      obtain ⟨what, n, name, other, pv, kv, parts, keeps⟩ := o
      simp only at hpv hkv hact
      subst hpv hkv
      obtain ⟨d0, d1, d2, d3, d4, d5⟩ := hsix
      simp only [Nat.add_zero] at d0 d1 d2 d3 d4 d5
      have HACT := Lib.hid hact; clear hact hop hbel
      go_wp2_with fail
      refine HACT.out.mono ?_
      rintro e w4 ⟨er, fs', F', rfl, -, HP'⟩
      have HP4 := Lib.hid HP'; clear HP'
      go_wp2
      go_roundw
      case rel => exact ⟨k + 1, fs', F', by omega, by go_num, HP4⟩
      case measure => simp [intOf]; omega
    · have H4 := Lib.hid HP.out.held
      have hcl : Calm fs k 5000 := HP.out.calm.mono (Nat.le_refl _) (by have := sizeO_take os k; omega)
      have HC := Lib.hid hcl; clear hcl HP HU4 H3
      by_cases hnm : nameB s.data.toList = true
      · obtain ⟨d, n, f1, f2, f3, e1, q1, e2, q2, e3, q3, e4, q4, g1, g2, e5, e6, e7⟩ := safe_law fs s.data.toList more keeps hnm k 5000 HC.out
        have E1 := Lib.hid e1; have E2 := Lib.hid e2; have E3 := Lib.hid e3; have E4 := Lib.hid e4; have E5 := Lib.hid e5; have E6 := Lib.hid e6; have E7 := Lib.hid e7
        have Q1 := Lib.hid q1; have Q2 := Lib.hid q2; have Q4 := Lib.hid q4
        clear e1 e2 e3 e4 e5 e6 e7 q1 q2 q4
        go_wp2_with fail
        refine (H4.out.append hB hsn (rows_nil _ _) (HC.out.modest (by simp only; decide) (by omega) (by simp))).mono ?_
        rintro e w5 ⟨F5, he, H5, -, -⟩
        rw [List.flatten_nil, E1.out] at he H5
        subst he
        have H5 := Lib.hid H5; clear H4
        go_wp2_with fail
        refine (H5.out.sync hB hsn (by simp only; decide)).mono ?_
        rintro e w6 ⟨F6, he, H6, -, -⟩
        rw [E2.out] at he H6
        subst he
        have H6 := Lib.hid H6; clear H5
        go_wp2_with fail
        refine (read_any w6 p _ _ H6.out.fs s hsn (fun f hf => by have := Q2.out.data f hf; omega)).mono ?_
        rintro e w7 ⟨hb7, hr⟩
        rw [E3.out] at hr
        obtain ⟨u7, rfl, hu7⟩ := hr
        obtain ⟨A7, c7, rfl⟩ := Own.formB hu7
        have H7 := Lib.hid (H6.out.go hB hb7)
        have L7 := Lib.hid (fun k hk => H6.out.fs.lt k hk)
        have U7 := Lib.hid hu7
        clear hb7 hu7 H6
        go_wp2_with fail
        have hs7 := H7.out.size hB
        refine (copyBytes_any _ more W.heap.size w7 (HM.out.below H7.out.below) hs7 (by omega)).mono ?_
        rintro e w8 ⟨u8, rfl, hu8, hb8⟩
        have H8 := H7.out.go hB hb8
        have hus := Own.outS hu8 (fun k hk => H7.out.fs.lt k hk)
        obtain ⟨A8, c8, rfl⟩ := Own.formB hu8
        have HR8 := Lib.hid (RowsAt.new1 (fun k hk => H8.fs.lt k hk) hus w8.heap.size rfl)
        have hb9 := (Below.refl _ w8).alloc (Nat.le_refl _) (.cells #[.slice A8 more.length c8] 22)
        have H9 := Lib.hid (H8.go hB hb9)
        have U9 := Lib.hid ((U7.out.below hb8).below hb9)
        clear hu8 hb8 hus hb9 H8 H7 U7 hs7
        go_wp2_with fail
        refine (H9.out.append hB hsn HR8.out (Q2.out.modest (by simp only; decide) (by omega) (by simp; omega))).mono ?_
        rintro e w10 ⟨F10, he, H10, k10, -⟩
        rw [show [more].flatten = more by simp, E4.out] at he H10
        subst he
        have U10 := Lib.hid (ownsRow_block U9.out fun g hg => k10.block g (U9.out.lt g hg).2 (fun h => by have := L7.out g h; have := (U9.out.lt g hg).1; omega))
        have H10 := Lib.hid H10
        clear k10 HR8 H9 U9 L7
        go_wp2_with fail
        refine (copyInts_big _ keeps W.heap.size w10 (HK.out.below H10.out.below) (H10.out.size hB) (by omega)).mono ?_
        rintro e w11 ⟨u11, rfl, hu11, hb11⟩
        have H11 := Lib.hid (H10.out.go hB hb11)
        have U11 := Lib.hid (Own.below U10.out hb11)
        obtain ⟨A11, c11, hf11⟩ := hu11.form
        have K11 := Lib.hid (Own.seg hu11)
        clear hb11 hu11 H10 U10
        subst hf11
        go_wp2_with fail
        refine (H11.out.crash hB Q4.out (by omega) (by omega) _ keeps K11.out (-1)).mono ?_
        rintro e w12 ⟨p12, F12, rfl, hg12, hf12, -, hb12⟩
        have G12 := Lib.hid hg12; have H12 := Lib.hid hf12; have U12 := Lib.hid (Own.below U11.out hb12)
        clear hg12 hf12 hb12 H11 U11 K11
        have C12 := Lib.hid (Q4.out.crash keeps 0)
        go_wp2_with fail
        refine (read_any w12 p12 _ _ G12.out.fs s hsn (fun f hf => by have := C12.out.data f hf; omega)).mono ?_
        rintro e w13 ⟨hb13, hr⟩
        rw [E5.out] at hr
        obtain ⟨u13, rfl, hu13⟩ := hr
        obtain ⟨A13, c13, hf13⟩ := Own.formB hu13
        have hgl : (d ++ more.take (n - d.length)).length = n := by simp; omega
        simp only [hgl] at hf13
        subst hf13
        have G13 := Lib.hid (G12.out.go hB hb13); have H13 := Lib.hid (H12.out.go hB hb13)
        have S13 := Own.seg (Own.below U12.out hb13)
        have T13 := Own.seg hu13
        have T13' : Seg w13 w13.heap.size (.slice A13 (d ++ more.take (n - d.length)).length c13) (byteCells (d ++ more.take (n - d.length))) := by rw [hgl]; exact T13
        obtain ⟨hc13, x1⟩ := seg_take T13' d.length (by rw [hgl]; omega)
        obtain ⟨A14, c14, hsl2, x2⟩ := seg_drop T13' d.length (by rw [hgl]; omega)
        rw [hgl] at hsl2 x2
        have M13 := HM.out.below H13.out.below
        obtain ⟨hcm2, x3⟩ := seg_take M13 (n - d.length) (by omega)
        have hr1 : ∀ w', (Instr.slice 22 (.slice A13 n c13) none (some (.int .i64 (d.length : Int))) none).run Try.prog w' = .ok (.slice A13 d.length c13) w' := fun w' => slice_front A13 n c13 d.length w' hc13
        have hr2 : ∀ w', (Instr.slice 22 (.slice A13 n c13) (some (.int .i64 (d.length : Int))) none none).run Try.prog w' = .ok (.slice A14 (n - d.length) c14) w' := fun w' => by rw [slice_from A13 n c13 d.length w' (by omega), hsl2]
        have hr3 : ∀ w', (Instr.slice 22 (.slice Am more.length cm) none (some (.int .i64 ((n : Int) - (d.length : Int)))) none).run Try.prog w' = .ok (.slice Am (n - d.length) cm) w' := fun w' => by
          have := slice_front Am more.length cm (n - d.length) w' hcm2
          rwa [show (((n - d.length : Nat)) : Int) = (n : Int) - (d.length : Int) by omega] at this
        have c1 : ∀ m, Calls Try.prog 20 #[.slice A13 d.length c13, .slice A7 d.length c7] (w13.drewN m) fun e w' => e = .returned (.bool true) ∧ ∃ m', w' = (w13.drewN m).drewN m' := fun m => by
          have := sameBytes_any _ _ _ d w13.heap.size (w13.drewN m) x1 S13
          rw [List.take_append_of_le_length (by omega), List.take_length, decide_eq_true rfl] at this
          exact this
        have c2 : ∀ m, Calls Try.prog 20 #[.slice A14 (n - d.length) c14, .slice Am (n - d.length) cm] (w13.drewN m) fun e w' => e = .returned (.bool true) ∧ ∃ m', w' = (w13.drewN m).drewN m' := fun m => by
          have := sameBytes_any _ _ _ (more.take (n - d.length)) w13.heap.size (w13.drewN m) x2 (x3.more (H13.out.size hB))
          rw [List.drop_append_of_le_length (by omega), List.drop_length, List.nil_append, decide_eq_true rfl] at this
          exact this
        have C1 := Lib.hid c1; have C2 := Lib.hid c2; have T13 := Lib.hid T13
        have i1 : ¬ ((n : Int) < d.length) := by omega
        have i2 : ¬ ((d.length : Int) + more.length < n) := by omega
        have j1 : decide (n < d.length) = false := decide_eq_false (by omega)
        have hw1 : IntKind.i64.wrap ((d.length : Int) + more.length) = (d.length : Int) + more.length := wrap64 _ (by omega) (by omega)
        have j2 : decide (IntKind.i64.wrap ((d.length : Int) + more.length) < (n : Int)) = false := by rw [hw1]; exact decide_eq_false i2
        have hw2 : IntKind.i64.wrap ((n : Int) - d.length) = (n : Int) - d.length := wrap64 _ (by omega) (by omega)
        clear c1 c2 x1 x2 x3 hsl2 T13' S13 M13 hu13 hb13 U12 G12 H12 hgl i1 i2 hw1
        generalize hnl : n - d.length = nl at *
        have HNL := Lib.hid hnl; clear hnl
        go_wp2_with fail
        go_quiet (first | (go_at_call_of 20 (Value.slice A13 d.length c13); exact Calls.quiet_of (C1.out _)) | (go_at_call_of 20 (Value.slice A14 nl c14); exact Calls.quiet_of (C2.out _)))
        clear hr1 hr2 hr3 j1 j2 C1 C2 hw2
        go_wp2_with fail
        refine ((G13.out.go hB (below_drewN (Below.refl _ w13) nq)).crash hB C12.out (by omega) (by omega) _ [] (Seg.nil _ _) (-1)).mono ?_
        rintro e w15 ⟨p15, F15, rfl, hg15, hf15, -, hb15⟩
        have C15 := Lib.hid (C12.out.crash [] 0)
        have G15 := Lib.hid hg15
        have hb15' := (below_drewN (Below.refl w13.heap.size w13) nq).trans hb15
        have H15 := Lib.hid (H13.out.go hB hb15')
        have T15 := Lib.hid (T13.out.below hb15')
        have hz15 : w13.heap.size ≤ w15.heap.size := hb15'.size
        clear hg15 hf15 hb15 hb15' G13 H13 T13
        go_wp2_with fail
        refine (read_any w15 p15 _ _ G15.out.fs s hsn (fun f hf => by have := C15.out.data f hf; omega)).mono ?_
        rintro e w16 ⟨hb16, hr⟩
        rw [E6.out] at hr
        obtain ⟨u16, rfl, hu16⟩ := hr
        obtain ⟨A16, c16, hf16⟩ := Own.formB hu16
        have hgl2 : (d ++ more.take nl).length = n := by have := HNL.out; simp; omega
        simp only [hgl2] at hf16
        clear hgl2
        subst hf16
        have G16 := Lib.hid (G15.out.go hB hb16); have H16 := Lib.hid (H15.out.go hB hb16)
        have S16 := Lib.hid (Own.seg hu16)
        have T16 := Lib.hid (((T15.out.more hz15).below hb16).more hb16.size)
        clear hu16 hb16 G15 H15 T15 hz15
        go_wp2_with fail
        refine (sameBytes_any _ _ _ _ w16.heap.size w16 S16.out T16.out).mono ?_
        rintro e w17 ⟨rfl, n17, rfl⟩
        rw [decide_eq_true rfl]
        have G17 := Lib.hid (G16.out.go hB (below_drewN (Below.refl _ w16) n17)); have H17 := Lib.hid (H16.out.go hB (below_drewN (Below.refl _ w16) n17))
        clear G16 H16 S16 T16
        go_wp2_with fail
        refine (names_any _ p15 _ F15 G17.out.fs (Nat.le_trans C15.out.files (by omega)) C15.out.short).mono ?_
        rintro e w18 ⟨v18, rfl, hv18, hb18⟩
        obtain ⟨A18, c18, hf18⟩ := hv18.form
        have V18 := Lib.hid hv18
        have H18 := Lib.hid (H17.out.go hB hb18)
        clear hv18 hb18 G17 H17
        subst hf18
        go_wp2_with fail
        refine (names_any _ p _ F10 H18.out.fs (Nat.le_trans Q4.out.files (by omega)) Q4.out.short).mono ?_
        rintro e w19 ⟨v19, rfl, hv19, hb19⟩
        have s18 := (Own.seg V18.out).below hb19
        have s19 := Own.seg hv19
        obtain ⟨A19, c19, hf19⟩ := hv19.form
        have HS5 := Lib.hid (s18.more hb19.size); have HS6 := Lib.hid s19
        have H19 := Lib.hid (H18.out.go hB hb19)
        clear hv19 hb19 s18 s19 V18 H18
        subst hf19
        go_wp2_with fail
        refine (sameTexts_any _ _ _ _ _ _ HS5.out HS6.out).mono ?_
        rintro e w20 ⟨rfl, n20, rfl⟩
        rw [decide_eq_true E7.out]
        go_wp2
        go_ret
        exact ⟨rfl, below_drewN H19.out.below _⟩
      · have hnm' : nameB s.data.toList = false := by simpa using hnm
        have e1 : ∀ L, stAppend ⟨-1, fs⟩ s.data.toList L = (⟨-1, fs⟩, 10) := fun L => stAppend_no hnm'
        have E1 := Lib.hid e1; clear e1
        go_wp2_with fail
        refine (H4.out.append hB hsn (rows_nil _ _) (HC.out.modest (by simp only; decide) (by omega) (by simp))).mono ?_
        rintro e w5 ⟨F5, he, H5, -, -⟩
        rw [E1.out] at he H5
        subst he
        have H5 := Lib.hid H5; clear H4
        go_wp2_with fail
        refine (H5.out.append hB hsn (rows_nil _ _) (HC.out.modest (by simp only; decide) (by omega) (by simp))).mono ?_
        rintro e w6 ⟨F6, he, H6, -, -⟩
        rw [E1.out] at he H6
        subst he
        go_wp2
        go_ret
        exact ⟨rfl, H6.below⟩
end Go.Proofs.Ytpdelgjfamelfaa
