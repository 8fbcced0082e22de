/- Merged of K12 K13 K14 K15: the script of JournalSteps, and each of its calls on both journals. -/
import Derived.Test.YtpdelgjfamelfaaGreatK11
import Derived.Test.YtpdelgjfamelfaaGreatK7b
import Derived.Test.YtpdelgjfamelfaaGreatJ19
import Derived.Test.YtpdelgjfamelfaaGreatJ23
/- K12 -/
/- The script of JournalSteps: in memory; cut, great, first. -/
namespace Go.Proofs.YtpdelgjfamelfaaGreat
open Go.RowKit Go.Lib Go.Vfs Go.Par Go.Shelf
set_option linter.unusedVariables false
set_option linter.unusedSimpArgs false

/-- a step in memory: its four cells. -/
structure OpJ where
  what : Int
  n : Int
  rv : Value
  kv : Value
  rows : List (List UInt8)
  keeps : List Int
def OpJ.cells (o : OpJ) : List Value := [.int .i64 o.what, .int .i64 o.n, o.rv, o.kv]
/-- a step whose slices lie below B. -/
structure OpJAt (w : World) (B : Nat) (o : OpJ) : Prop where
  rows : RowsAt (· < B) w o.rv o.rows
  ints : Seg w B o.kv (ints o.keeps)
  few : o.keeps.length ≤ 17592186043904
  num : o.n ≤ 9223372036854775807
def SegJ (w : World) (B : Nat) (v : Value) (os : List OpJ) : Prop :=
  ∃ A c, v = .slice A os.length c ∧ os.length ≤ c ∧ c ≤ 9223372036854775807 ∧ (∀ o ∈ os, OpJAt w B o) ∧
    ∀ i (h : i < os.length), ∃ b off, A = some ⟨b, off, none⟩ ∧ b < B ∧ ∀ j, j < 4 → w.cell? ⟨b, off + i * 4 + j, none⟩ = os[i].cells[j]?
theorem OpJAt.same {w w' : World} {B : Nat} {o : OpJ} (h : OpJAt w B o) (hk : ∀ b, b < B → w'.heap[b]? = w.heap[b]?) : OpJAt w' B o :=
  ⟨h.rows.keep fun b hb => ⟨hb, hk b hb⟩, h.ints.keep fun b o hb => World.cell?_of_block (a := ⟨b, o, none⟩) (hk b hb), h.few, h.num⟩
theorem SegJ.same {w w' : World} {B : Nat} {v : Value} {os : List OpJ} (h : SegJ w B v os) (hk : ∀ b, b < B → w'.heap[b]? = w.heap[b]?) : SegJ w' B v os := by
  have hc : ∀ b o, b < B → w'.cell? ⟨b, o, none⟩ = w.cell? ⟨b, o, none⟩ := fun b o hb => World.cell?_of_block (a := ⟨b, o, none⟩) (hk b hb)
  obtain ⟨A, c, h1, h2, h3, h4, h5⟩ := h
  refine ⟨A, c, h1, h2, h3, fun o ho => (h4 o ho).same hk, fun i hi => ?_⟩
  obtain ⟨b, off, e, hbb, hcc⟩ := h5 i hi
  exact ⟨b, off, e, hbb, fun j hj => by rw [hc b _ hbb]; exact hcc j hj⟩
theorem SegJ.below {w w' : World} {B : Nat} {v : Value} {os : List OpJ} (h : SegJ w B v os) (hb : Below B w w') : SegJ w' B v os := h.same fun b hlt => hb.block b hlt
theorem SegJ.form {w : World} {B : Nat} {v : Value} {os : List OpJ} (h : SegJ w B v os) : ∃ A c, v = .slice A os.length c ∧ os.length ≤ c ∧ c ≤ 9223372036854775807 := by
  obtain ⟨A, c, h1, h2, h3, -⟩ := h
  exact ⟨A, c, h1, h2, h3⟩
theorem SegJ.op {w : World} {B : Nat} {v : Value} {os : List OpJ} (h : SegJ w B v os) (k : Nat) (hk : k < os.length) : OpJAt w B os[k] := by
  obtain ⟨A, c, h1, h2, h3, h4, -⟩ := h
  exact h4 _ (List.getElem_mem hk)
theorem SegJ.take {w : World} {B : Nat} {A : Option Addr} {n c : Nat} {os : List OpJ} (h : SegJ w B (.slice A n c) os) (k : Nat) (hk : k ≤ os.length) : SegJ w B (.slice A k c) (os.take k) := by
  obtain ⟨A', c', e, h2, h3, h4, h5⟩ := h
  injection e with e1 e2 e3
  subst e1 e3
  have hl : (os.take k).length = k := by simp; omega
  refine ⟨A, c, by rw [hl], by omega, h3, fun o ho => h4 o (List.mem_of_mem_take ho), fun i hi => ?_⟩
  rw [hl] at hi
  obtain ⟨b, off, e, hb, hc⟩ := h5 i (by omega)
  exact ⟨b, off, e, hb, fun j hj => by rw [hc j hj, List.getElem_take]⟩
/-- the cells of a step in a block. -/
def Four (w : World) (b off : Nat) (o : OpJ) : Prop :=
  w.cell? ⟨b, off, none⟩ = some (.int .i64 o.what) ∧ w.cell? ⟨b, off + 1, none⟩ = some (.int .i64 o.n) ∧ w.cell? ⟨b, off + 2, none⟩ = some o.rv ∧ w.cell? ⟨b, off + 3, none⟩ = some o.kv
theorem SegJ.four {w : World} {B : Nat} {A : Option Addr} {n c : Nat} {os : List OpJ} (h : SegJ w B (.slice A n c) os) (k : Nat) (hk : k < os.length) : ∃ b off, A = some ⟨b, off, none⟩ ∧ b < B ∧ Four w b (off + k * 4) os[k] := by
  obtain ⟨A', c', e, h2, h3, h4, h5⟩ := h
  injection e with e1 e2 e3
  subst e1 e3
  obtain ⟨b, off, e, hb, hc⟩ := h5 k hk
  exact ⟨b, off, e, hb, hc 0 (by omega), hc 1 (by omega), hc 2 (by omega), hc 3 (by omega)⟩
theorem OpJAt.forms {w : World} {B : Nat} {o : OpJ} (h : OpJAt w B o) : (∃ A c, o.rv = .slice A o.rows.length c) ∧ ∃ A c, o.kv = .slice A o.keeps.length c := by
  obtain ⟨⟨vs, hl, ⟨A, c, h1, -⟩, -⟩, ⟨A2, c2, h2, -⟩, -⟩ := h
  rw [ints_length] at h2
  rw [hl] at h1
  exact ⟨⟨A, c, h1⟩, A2, c2, h2⟩
def sizeJ (os : List OpJ) : Nat := (os.map fun o => sizeR o.rows).sum
theorem sizeJ_succ (os : List OpJ) (k : Nat) (h : k < os.length) : sizeJ (os.take (k + 1)) = sizeJ (os.take k) + sizeR os[k].rows := by
  unfold sizeJ
  rw [List.take_succ_eq_append_getElem h, List.map_append, List.sum_append]
  simp
theorem sizeJ_take (os : List OpJ) (k : Nat) : sizeJ (os.take k) ≤ sizeJ os := by
  unfold sizeJ
  rw [List.map_take]
  exact sum_take_le _ _
theorem sizeJ_nth (os : List OpJ) (k : Nat) (hk : k < os.length) : sizeJ (os.take k) + sizeR os[k].rows ≤ sizeJ os := by
  rw [← sizeJ_succ os k hk]
  exact sizeJ_take os _

theorem slice_opsJ (A : Option Addr) (n c N : Nat) (w : World) (h : N ≤ c) : (Instr.slice 54 (.slice A n c) none (some (.int .i64 (N : Int))) none).run Tryz.prog w = .ok (.slice A N c) w := by
  have ht' : Tryz.prog.underlying 54 = some (.slice (Tryz.prog.elem 54)) := by simp [Program.elem, Tryz.underlying54]
  have he : Tryz.prog.elem 54 = 59 := by simp [Program.elem, Tryz.underlying54]
  rw [run_slice_h w 54 _ _ _ ht' .i64 _ (by omega) (by omega), he, Tryz.sizeOf59]
  simp only [Result.andThen, sliced]
  cases A <;> simp [Addr.add]

set_option maxHeartbeats 1000000 in
theorem cutJ_any (v : Value) (os : List OpJ) (B : Nat) (w : World) (h : SegJ w B v os) :
    Calls Tryz.prog 21 #[v] w fun e w' => ∃ u, e = .returned u ∧ SegJ w B u (os.take 40) ∧ w' = w := by
  have h0 := h
  obtain ⟨A, c, rfl, h2, h3, -, -⟩ := h
  have H := Lib.hid h0; clear h0
  by_cases hl : (os.length : Int) > 40
  · have hs := slice_opsJ A os.length c 40 w (by omega)
    go_enter Tryz.func21, Tryz.ntmps21
    go_wp2
    go_ret
    exact ⟨_, rfl, H.out.take 40 (by omega), rfl⟩
  · go_enter Tryz.func21, Tryz.ntmps21
    go_wp2
    go_ret
    refine ⟨_, rfl, ?_, rfl⟩
    rw [List.take_of_length_le (by omega)]
    exact H.out

set_option maxRecDepth 20000 in
set_option maxHeartbeats 2000000 in
theorem greatJ_any (v : Value) (os : List OpJ) (w : World) (h : SegJ w w.heap.size v os) (hs : sizeJ os ≤ 1048576) :
    Calls Tryz.prog 22 #[v] w fun e w' => e = .returned (.bool (decide (5000 < sizeJ os))) ∧ w = w' := by
  have h0 := h
  obtain ⟨A, c, rfl, h2, h3, -, -⟩ := h
  have H := Lib.hid h0; clear h0
  have HSZ := Lib.hid hs
  go_enter Tryz.func22, Tryz.ntmps22
  go_wp2
  go_loopw [3, 4] (fun n i wr => ∃ k S : Nat, k ≤ os.length ∧ i = .int .i64 k ∧ n = .int .i64 S ∧ Hid (S = sizeJ (os.take k)) ∧ w = wr) (fun _ i _ => os.length - (intOf i).toNat)
  case atStart => exact ⟨0, 0, by omega, rfl, rfl, Lib.hid rfl, rfl⟩
  case round =>
    obtain ⟨k, S, hk, rfl, rfl, HK, rfl⟩ := hrel
    by_cases hlt : k < os.length
    · obtain ⟨b, off, rfl, hb, d0, d1, d2, d3⟩ := H.out.four k hlt
      have hat := H.out.op k hlt
      have hsn := sizeJ_nth os k hlt
      have hsu := sizeJ_succ os k hlt
      obtain ⟨⟨A', c', hrv⟩, -⟩ := hat.forms
      have hrows := hat.rows
      generalize os[k] = o at *
      rw [hrv] at d2 hrows
      have hS1 : S + sizeR o.rows ≤ 1048576 := by rw [HK.out]; omega
      have HSU : Hid (S + sizeR o.rows = sizeJ (os.take (k + 1))) := Lib.hid (by rw [hsu, HK.out])
      obtain ⟨rs, hrs⟩ : ∃ rs, rs = o.rows := ⟨_, rfl⟩
      rw [← hrs] at d2 hrows hS1 HSU
      obtain ⟨A2, c2, he, hc1, hm1, HRW⟩ := hrows.open_
      injection he with he1 he2 he3
      subst he1 he3
      clear hrows hat hsn hsu hrv he2 d0 d1 d3 hrs
      go_wp2
      go_loopw [3, 5] (fun n j wx => ∃ i T : Nat, i ≤ rs.length ∧ j = .int .i64 i ∧ n = .int .i64 T ∧ Hid (T = S + sizeR (rs.take i)) ∧ w = wx) (fun _ j _ => rs.length - (intOf j).toNat)
      case atStart => exact ⟨0, S, by omega, rfl, rfl, Lib.hid (by simp [sizeR]), rfl⟩
      case round =>
        obtain ⟨i, T, hi, rfl, rfl, HT, rfl⟩ := hrel
        by_cases hil : i < rs.length
        · obtain ⟨b2, off2, Ak, ck, rfl, hb2, hc2, -⟩ := HRW.out _ (Below.refl _ _) i hil
          have HX := Lib.hid (sizeR_succ rs i hil)
          have hL : T + (1 + (rs.getD i []).length) ≤ 1048576 := by
            have h1 := HT.out; have h2 := HX.out; have h3 := sizeR_mono rs (i + 1)
            omega
          generalize rs.getD i [] = L at *
          go_wp2
          go_roundw
          case rel => exact ⟨i + 1, T + (1 + L.length), by omega, by go_num, by go_num, Lib.hid (by rw [HX.out, HT.out]; omega), trivial⟩
          case measure => simp [intOf]; omega
        · have hie : i = rs.length := by omega
          have HTE : Hid (T = sizeJ (os.take (k + 1))) := Lib.hid (by rw [← HSU.out, HT.out, hie, List.take_length])
          clear hie
          go_wp2
          go_roundw
          case rel => exact ⟨k + 1, T, by omega, by go_num, rfl, HTE, trivial⟩
          case measure => simp [intOf]; omega
    · have hkm : k = os.length := by omega
      have HE : Hid (decide (5000 < sizeJ os) = decide ((5000 : Int) < (S : Int))) := Lib.hid (by
        have : S = sizeJ os := by rw [HK.out, hkm, List.take_length]
        rw [← this, decide_eq_decide]
        omega)
      clear hkm
      go_wp2
      go_ret
      exact ⟨by rw [HE.out]; rfl, rfl⟩

/-- the first row, or nothing. -/
def fstR (rows : List (List UInt8)) : List UInt8 := rows.getD 0 []
set_option maxRecDepth 20000 in
theorem first_any (what n : Int) (Ar Ak : Option Addr) (cr nk ck : Nat) (rows : List (List UInt8)) (B : Nat) (w : World) (hB : B ≤ w.heap.size) (h : RowsAt (· < B) w (.slice Ar rows.length cr) rows) :
    Calls Tryz.prog 25 #[.agg #[.int .i64 what, .int .i64 n, .slice Ar rows.length cr, .slice Ak nk ck]] w fun e w' => ∃ A c, e = .returned (.slice A (fstR rows).length c) ∧ Hid (Seg w B (.slice A (fstR rows).length c) (byteCells (fstR rows))) ∧ w' = w.alloc (.cells #[.int .i64 what, .int .i64 n, .slice Ar rows.length cr, .slice Ak nk ck] 59) := by
  obtain ⟨vs, hvl, ⟨A, c, he, hvc, hvm, hva⟩, hve⟩ := h
  rw [hvl] at he hva hvc
  injection he with he1 he2 he3
  subst he1 he3
  by_cases hr : rows.length = 0
  · have hre : rows = [] := List.eq_nil_of_length_eq_zero hr
    subst hre
    clear hva hve
    go_enter Tryz.func25, Tryz.ntmps25
    go_wp2
    go_ret
    exact ⟨none, 0, rfl, Lib.hid (Seg.nil _ _), rfl⟩
  · obtain ⟨b, off, rfl, hb, hc⟩ := hva (by omega)
    have h0 := hve 0 (by omega)
    have hc0 := hc 0 (by omega)
    obtain ⟨A0, c0, hf0, -⟩ := Seg.open_bytes (B := B) h0
    have hc1 : w.cell? ⟨b, off, none⟩ = some (.slice A0 (fstR rows).length c0) := by
      have : vs[0]? = some (vs.getD 0 (.bool false)) := by rw [List.getD_eq_getElem?_getD, List.getElem?_eq_getElem (by omega)]; rfl
      rw [this, hf0] at hc0
      exact hc0
    have hseg : Seg w B (.slice A0 (fstR rows).length c0) (byteCells (fstR rows)) := by
      rw [hf0] at h0
      exact h0
    have HSEG := Lib.hid hseg
    have hbw : b < w.heap.size := by omega
    generalize (fstR rows).length = N at *
    have hrl : (rows.length == 0) = false := by simpa using hr
    have hri : ((rows.length : Int) == 0) = false := by simpa using hr
    have hrp : 0 < rows.length := by omega
    clear hva hve h0 hf0 hc0 hc hseg
    go_enter Tryz.func25, Tryz.ntmps25
    go_wp2
    go_ret
    exact ⟨A0, c0, rfl, HSEG, rfl⟩
end Go.Proofs.YtpdelgjfamelfaaGreat
/- K13 -/
/- Plain: what a script keeps of the three files: no base is younger than the steps. -/
namespace Go.Proofs.YtpdelgjfamelfaaGreat
open Go.RowKit Go.Lib Go.Vfs Go.Par Go.Shelf
set_option linter.unusedVariables false
set_option linter.unusedSimpArgs false

/-- a base that is safe, and no younger than K. -/
def BsOk (K : Nat) (bs : Option File) : Prop := ∀ f, bs = some f → f.safe = f.data.length ∧ ∀ x, baseOf f.data = some x → x.1 ≤ K
/-- in whatever state. -/
def GW (K : Nat) (fs : List File) : Prop := BsOk K (findL File.name nBase fs)
/-- between two steps. -/
def GI (K : Nat) (fs : List File) : Prop := findL File.name nNext fs = none ∧ GW K fs
theorem BsOk.mono {K K' : Nat} {bs : Option File} (h : BsOk K bs) (hK : K ≤ K') : BsOk K' bs := fun f hf => ⟨(h f hf).1, fun x hx => Nat.le_trans ((h f hf).2 x hx) hK⟩
theorem GI.mono {K K' : Nat} {fs : List File} (h : GI K fs) (hK : K ≤ K') : GI K' fs := ⟨h.1, BsOk.mono h.2 hK⟩
theorem GI.nil : GI 0 [] := ⟨rfl, fun f hf => by cases hf⟩
theorem V3.of (fs : List File) : V3 fs (findL File.name nNext fs) (findL File.name nBase fs) (findL File.name nLog fs) := ⟨rfl, rfl, rfl⟩
theorem V3.gw {fs : List File} {nx bs lg : Option File} {K : Nat} (h : V3 fs nx bs lg) (hb : BsOk K bs) : GW K fs := by unfold GW; rw [h.bs]; exact hb
theorem V3.gi {fs : List File} {bs lg : Option File} {K : Nat} (h : V3 fs none bs lg) (hb : BsOk K bs) : GI K fs := ⟨h.nx, h.gw hb⟩
theorem do_cases (st : St) (fs : List File) : doSt st fs = (st, 13) ∨ doSt st fs = (⟨dec st.power, fs⟩, 0) := by
  unfold doSt; split
  · exact .inl rfl
  · exact .inr rfl
theorem gi_do {K : Nat} {st : St} {fs : List File} (h : GI K st.files) (h2 : GI K fs) : GI K (doSt st fs).1.files := by
  rcases do_cases st fs with e | e <;> rw [e]
  · exact h
  · exact h2
theorem gi_append {K : Nat} {st : St} (h : GI K st.files) (L : List UInt8) : GI K (stAppend st nLog L).1.files := by
  have hv := V3.of st.files
  rw [h.1] at hv
  rw [show stAppend st nLog L = doSt st (appF nLog L st.files) from hv.append (pw := st.power) L]
  exact gi_do h ((hv.appL L).gi h.2)
theorem gi_sync {K : Nat} {st : St} (h : GI K st.files) : GI K (jSync st).1.files := by
  have hv := V3.of st.files
  rw [h.1] at hv
  have h2 := h.2
  unfold GW at h2
  generalize findL File.name nBase st.files = bs at *
  cases hl : findL File.name nLog st.files with
  | none =>
    rw [hl] at hv
    rw [show jSync st = (st, 0) from hv.sync0 (pw := st.power)]
    exact h
  | some f =>
    rw [hl] at hv
    obtain ⟨fs', e, h3⟩ := hv.sync (pw := st.power) rfl
    rw [show jSync st = doSt st fs' from e]
    exact gi_do h (h3.gi h2)
theorem gw_crash {K : Nat} {fs : List File} (h : GW K fs) (ks : List Int) : GW K (crashL ks 0 fs) := by
  obtain ⟨i, j, k, hc⟩ := (V3.of fs).crash ks
  refine hc.gw fun f' hf' => ?_
  cases hb : findL File.name nBase fs with
  | none => rw [hb] at hf'; cases hf'
  | some f =>
    rw [hb] at hf'
    injection hf' with hf'
    obtain ⟨h1, h2⟩ := h f hb
    obtain ⟨n, d, s⟩ := f
    simp only at h1 h2
    subst h1
    rw [crash_synced] at hf'
    subst hf'
    exact ⟨rfl, h2⟩
/-- opening. -/
theorem gi_open {K : Nat} {st st' : St} {g : Nat} {ps ls : List (List UInt8)} (h : GW K st.files) (ho : openSt st = (st', .ok (g, ps, ls))) : GI K st'.files ∧ g ≤ K := by
  have h1 : (open1 st).2 = 0 := by
    apply Classical.byContradiction
    intro hne
    unfold openSt at ho
    rw [if_neg hne] at ho
    injection ho with _ ho; cases ho
  have hg1 : GI K (open1 st).1.files := by
    refine ⟨?_, ?_⟩
    · unfold open1 at h1 ⊢
      split
      · rename_i hh
        rw [if_pos hh] at h1
        unfold stRemove at h1 ⊢
        split
        · rename_i e hf
          rw [hf] at h1
          exact absurd h1 (find_err hf)
        · rename_i f hf
          rw [hf] at h1
          simp only at h1 ⊢
          rcases do_cases st (dropL File.name nNext st.files) with e | e
          · rw [e] at h1; simp at h1
          · rw [e]; exact findL_dropL_self _ _
      · rename_i hh
        have := hasF_find st.files nNext
        cases hf : findL File.name nNext st.files with
        | none => rfl
        | some f => rw [hf] at this; exact absurd this hh
    · unfold GW
      rw [open1_find st nBase (by decide)]
      exact h
  generalize hst1 : (open1 st).1 = st1 at *
  have hv := V3.of st1.files
  rw [hg1.1] at hv
  unfold openSt at ho
  rw [if_pos h1, hst1] at ho
  cases hb : openBase st1 with
  | none => rw [hb] at ho; simp only at ho; injection ho with _ ho; cases ho
  | some x =>
    rw [hb] at ho
    simp only at ho
    have hgk : x.1 ≤ K := by
      unfold openBase at hb
      split at hb
      · injection hb with hb; subst hb; exact Nat.zero_le _
      · rename_i f hf
        exact (hg1.2 f hf).2 _ hb
    have hfin : GI K (open2 st1 x.1).1.files := by
      unfold open2
      split
      · exact hg1
      · rename_i f hf
        split
        · rename_i hlt
          have hv2 := hv
          rw [hf] at hv2
          obtain ⟨fs', e, h3⟩ := hv2.trunc (pw := st1.power) rfl (Nat.le_of_lt hlt)
          rw [show stTruncate st1 nLog ((endOf (sameGen x.1 (frs f.data)) : Nat) : Int) = doSt st1 fs' from e]
          exact gi_do hg1 (h3.gi hg1.2)
        · exact hg1
    split at ho
    · injection ho with ho1 ho2
      injection ho2 with ho2
      rw [← ho1]
      refine ⟨hfin, ?_⟩
      have := congrArg (·.1) ho2
      simp only at this
      omega
    · injection ho with _ ho; cases ho

/-- laying a base. -/
theorem gi_lay {K : Nat} {st : St} {g : Nat} {rows : List (List UInt8)} (h : GI K st.files) (hg : g ≤ K) (hg2 : g + 1 < 4294967296) (hp : ∀ p ∈ rows, p.length ≤ 65536) (hl : rows.length < 4294967296) :
    GW (K + 1) (laySteps (encR (g + 1) (be4 rows.length :: rows)) (stepsOf (hasF st.files nLog)) st).1.files ∧ ((laySteps (encR (g + 1) (be4 rows.length :: rows)) (stepsOf (hasF st.files nLog)) st).2 = 0 → GI (K + 1) (laySteps (encR (g + 1) (be4 rows.length :: rows)) (stepsOf (hasF st.files nLog)) st).1.files) ∧ ((laySteps (encR (g + 1) (be4 rows.length :: rows)) (stepsOf (hasF st.files nLog)) st).2 = 0 ∨ (laySteps (encR (g + 1) (be4 rows.length :: rows)) (stepsOf (hasF st.files nLog)) st).2 = 13) := by
  have hE := baseOf_enc hg2 hp hl
  obtain ⟨E, hEe⟩ : ∃ E, E = encR (g + 1) (be4 rows.length :: rows) := ⟨_, rfl⟩
  rw [← hEe] at hE ⊢
  have hNew : BsOk (K + 1) (some ⟨nBase, E, E.length⟩) := fun f hf => by
    injection hf with hf; subst hf
    exact ⟨rfl, fun x hx => by rw [hE] at hx; injection hx with hx; subst hx; simp only; omega⟩
  have hv := V3.of st.files
  rw [h.1] at hv
  have hOld : BsOk (K + 1) (findL File.name nBase st.files) := BsOk.mono h.2 (by omega)
  rw [show hasF st.files nLog = (findL File.name nLog st.files).isSome from hv.hasL]
  generalize findL File.name nBase st.files = bs at *
  generalize findL File.name nLog st.files = lg at *
  have e0 : stepSt E 0 st = doSt st (appF nNext E st.files) := hv.step0 (pw := st.power) E
  have v0 := hv.appN E
  rw [show addF nNext none E = ⟨nNext, E, 0⟩ from rfl] at v0
  rcases do_cases st (appF nNext E st.files) with c0 | c0
  · rw [c0] at e0
    have : laySteps E (stepsOf lg.isSome) st = (st, 13) := by cases lg <;> simp [stepsOf, laySteps, e0]
    rw [this]
    exact ⟨hv.gw hOld, fun h => absurd (show (13 : Int) = 0 from h) (by decide), .inr rfl⟩
  rw [c0] at e0
  obtain ⟨f1, e1, v1⟩ := v0.step1 (pw := dec st.power) rfl E
  rcases do_cases ⟨dec st.power, appF nNext E st.files⟩ f1 with c1 | c1
  · rw [c1] at e1
    have : laySteps E (stepsOf lg.isSome) st = (⟨dec st.power, appF nNext E st.files⟩, 13) := by cases lg <;> simp [stepsOf, laySteps, e0, e1]
    rw [this]
    exact ⟨v0.gw hOld, fun h => absurd (show (13 : Int) = 0 from h) (by decide), .inr rfl⟩
  rw [c1] at e1
  obtain ⟨f2, e2, v2⟩ := v1.step2 (pw := dec (dec st.power)) rfl E
  rcases do_cases ⟨dec (dec st.power), f1⟩ f2 with c2 | c2
  · rw [c2] at e2
    have : laySteps E (stepsOf lg.isSome) st = (⟨dec (dec st.power), f1⟩, 13) := by cases lg <;> simp [stepsOf, laySteps, e0, e1, e2]
    rw [this]
    exact ⟨v1.gw hOld, fun h => absurd (show (13 : Int) = 0 from h) (by decide), .inr rfl⟩
  rw [c2] at e2
  cases lg with
  | none =>
    have : laySteps E (stepsOf (none : Option File).isSome) st = (⟨dec (dec (dec st.power)), f2⟩, 0) := by simp [stepsOf, laySteps, e0, e1, e2]
    rw [this]
    exact ⟨v2.gw hNew, fun _ => v2.gi hNew, .inl rfl⟩
  | some f =>
    obtain ⟨f3, e3, v3⟩ := v2.step3 (pw := dec (dec (dec st.power))) rfl E
    rcases do_cases ⟨dec (dec (dec st.power)), f2⟩ f3 with c3 | c3
    · rw [c3] at e3
      have : laySteps E (stepsOf (some f).isSome) st = (⟨dec (dec (dec st.power)), f2⟩, 13) := by simp [stepsOf, laySteps, e0, e1, e2, e3]
      rw [this]
      exact ⟨v2.gw hNew, fun h => absurd (show (13 : Int) = 0 from h) (by decide), .inr rfl⟩
    · rw [c3] at e3
      have : laySteps E (stepsOf (some f).isSome) st = (⟨dec (dec (dec (dec st.power))), f3⟩, 0) := by simp [stepsOf, laySteps, e0, e1, e2, e3]
      rw [this]
      exact ⟨v3.gw hNew, fun _ => v3.gi hNew, .inl rfl⟩
theorem lay_power {b : List UInt8} : ∀ (ks : List Nat) {st : St}, st.power ≤ 9223372036854775807 → (laySteps b ks st).1.power ≤ 9223372036854775807
  | [], st, h => h
  | k :: ks, st, h => by
    simp only [laySteps]
    split
    · exact lay_power ks (step_power h k)
    · exact step_power h k
end Go.Proofs.YtpdelgjfamelfaaGreat
/- K14 -/
/- The journal and the reference's beside one another. -/
namespace Go.Proofs.YtpdelgjfamelfaaGreat
open Go.RowKit Go.Lib Go.Vfs Go.Par Go.Shelf
set_option linter.unusedVariables false
set_option linter.unusedSimpArgs false

/-- what a journal holds. -/
structure Jn where
  st : St
  g : Nat
  base : List (List UInt8)
  rest : List (List UInt8)
/-- the blocks of the reference, and the law's own. -/
def PJ (W w : World) (F G : Nat → Prop) (bm bo b : Nat) : Prop := W.heap.size ≤ b ∧ b < w.heap.size ∧ ¬ F b ∧ ¬ G b ∧ b ≠ bm ∧ b ≠ bo
theorem pj_keep {W w w' : World} {F G F' G' X : Nat → Prop} {bm bo : Nat} (hk : Kept X w w') (hX : ∀ b, PJ W w F G bm bo b → ¬ X b) (hF : Grows w F F') (hG : Grows w G G') : ∀ b, PJ W w F G bm bo b → PJ W w' F' G' bm bo b ∧ w'.heap[b]? = w.heap[b]? := fun b hb => by
  obtain ⟨b1, b2, b3, b4, b5, b6⟩ := hb
  have hks := hk.size
  refine ⟨⟨b1, by omega, fun hf => ?_, fun hg => ?_, b5, b6⟩, hk.block b b2 (hX b ⟨b1, b2, b3, b4, b5, b6⟩)⟩
  · rcases hF b hf with h | h
    · exact b3 h
    · omega
  · rcases hG b hg with h | h
    · exact b4 h
    · omega
/-- the journal, the reference's in its box, a step in its box, and the rows that the law copied. -/
structure JO (W w : World) (p pj : Nat) (j : Jn) (F G : Nat → Prop) (bm : Nat) (m : Jn) (v bv rv : Value) (bo : Nat) (ob : Array Value) (ot : TypeId) (own : Value) (rows : List (List UInt8)) : Prop where
  jh : JH W.heap.size W w pj p j.st j.g j.base j.rest F G
  box : w.heap[bm]? = some (.cells #[.int .i64 m.st.power, v, .int .i64 (m.g : Nat), bv, rv] 45 (0, 0))
  obx : w.heap[bo]? = some (.cells ob ot (0, 0))
  lo : W.heap.size ≤ bm ∧ W.heap.size ≤ bo
  out : ¬ F bm ∧ ¬ G bm ∧ ¬ F bo ∧ ¬ G bo
  ref : RJv (PJ W w F G bm bo) w m.st.files m.base m.rest v bv rv
  ow : RowsAt (PJ W w F G bm bo) w own rows
section
variable {W w w' : World} {p pj : Nat} {j : Jn} {F G : Nat → Prop} {bm : Nat} {m : Jn} {v bv rv : Value} {bo : Nat} {ob : Array Value} {ot : TypeId} {own : Value} {rows : List (List UInt8)}
theorem JO.lt (h : JO W w p pj j F G bm m v bv rv bo ob ot own rows) : bm < w.heap.size ∧ bo < w.heap.size := ⟨lt_of_block h.box, lt_of_block h.obx⟩
theorem JO.sz (h : JO W w p pj j F G bm m v bv rv bo ob ot own rows) : W.heap.size ≤ w.heap.size := h.jh.below.size
theorem JO.below (h : JO W w p pj j F G bm m v bv rv bo ob ot own rows) : Below W.heap.size W w := h.jh.below
theorem JO.hS (h : JO W w p pj j F G bm m v bv rv bo ob ot own rows) : ∀ b, PJ W w F G bm bo b → b < w.heap.size := fun b hb => hb.2.1
theorem JO.kept (h : JO W w p pj j F G bm m v bv rv bo ob ot own rows) {X : Nat → Prop} (hk : Kept X w w') (hX : ¬ X bm ∧ ¬ X bo ∧ ∀ b, PJ W w F G bm bo b → ¬ X b) {p' pj' : Nat} {j' : Jn} {F' G' : Nat → Prop} (hj : JH W.heap.size W w' pj' p' j'.st j'.g j'.base j'.rest F' G') (hF : Grows w F F') (hG : Grows w G G') : JO W w' p' pj' j' F' G' bm m v bv rv bo ob ot own rows := by
  obtain ⟨l1, l2⟩ := h.lt
  obtain ⟨o1, o2, o3, o4⟩ := h.out
  have hp := pj_keep (W := W) (bm := bm) (bo := bo) hk hX.2.2 hF hG
  refine ⟨hj, (hk.block _ l1 hX.1).trans h.box, (hk.block _ l2 hX.2.1).trans h.obx, h.lo, ⟨fun hf => ?_, fun hf => ?_, fun hf => ?_, fun hf => ?_⟩, h.ref.keep hp, h.ow.keep hp⟩
  · rcases hF _ hf with a | a
    · exact o1 a
    · omega
  · rcases hG _ hf with a | a
    · exact o2 a
    · omega
  · rcases hF _ hf with a | a
    · exact o3 a
    · omega
  · rcases hG _ hf with a | a
    · exact o4 a
    · omega
theorem JO.go (h : JO W w p pj j F G bm m v bv rv bo ob ot own rows) (hb : Below w.heap.size w w') : JO W w' p pj j F G bm m v bv rv bo ob ot own rows :=
  h.kept (Kept.of_below (F := fun _ => False) hb) ⟨fun h => h, fun h => h, fun _ _ h => h⟩ (h.jh.go (Nat.le_refl _) hb) (Grows.refl _ _) (Grows.refl _ _)
theorem JO.jop (h : JO W w p pj j F G bm m v bv rv bo ob ot own rows) {st' : St} {g' : Nat} {base' rest' : List (List UInt8)} (hp : JPost w pj p F G st' g' base' rest' w') : ∃ F' G', JO W w' p pj ⟨st', g', base', rest'⟩ F' G' bm m v bv rv bo ob ot own rows := by
  obtain ⟨F', G', h1, h2, h3, h4⟩ := h.jh.op (Nat.le_refl _) hp
  obtain ⟨o1, o2, o3, o4⟩ := h.out
  exact ⟨F', G', h.kept h2 ⟨fun hx => hx.elim o1 o2, fun hx => hx.elim o3 o4, fun b hb hx => hx.elim hb.2.2.1 hb.2.2.2.1⟩ h1 h3 h4⟩
/-- what a method of the reference answers, in the blocks of this law. -/
theorem JO.refNew (h : JO W w p pj j F G bm m v bv rv bo ob ot own rows) (hb : Below w.heap.size w w') {fs : List File} {base rest : List (List UInt8)} {v' bv' rv' : Value} (hr : RJv (New (PJ W w F G bm bo) w w') w' fs base rest v' bv' rv') : RJv (PJ W w' F G bm bo) w' fs base rest v' bv' rv' :=
  hr.keep fun b hb2 => by
    obtain ⟨l1, l2⟩ := h.lt
    have hz := h.sz
    have hs := hb.size
    refine ⟨?_, rfl⟩
    rcases hb2 with ⟨b1, b2, b3, b4, b5, b6⟩ | ⟨b1, b2⟩
    · exact ⟨b1, by omega, b3, b4, b5, b6⟩
    · exact ⟨by omega, b2, fun hf => by have := h.jh.lt b (.inl hf); omega, fun hg => by have := h.jh.lt b (.inr hg); omega, by omega, by omega⟩
theorem JO.cells (h : JO W w p pj j F G bm m v bv rv bo ob ot own rows) :
    w.cell? ⟨bm, 0, none⟩ = some (.int .i64 m.st.power) ∧ w.cell? ⟨bm, 1, none⟩ = some v ∧ w.cell? ⟨bm, 2, none⟩ = some (.int .i64 (m.g : Nat)) ∧ w.cell? ⟨bm, 3, none⟩ = some bv ∧ w.cell? ⟨bm, 4, none⟩ = some rv ∧
    w.frozen? ⟨bm, 0, none⟩ = false ∧ w.frozen? ⟨bm, 1, none⟩ = false ∧ w.frozen? ⟨bm, 2, none⟩ = false ∧ w.frozen? ⟨bm, 3, none⟩ = false ∧ w.frozen? ⟨bm, 4, none⟩ = false := by
  have h0 := h.box
  simp [World.cell?, World.frozen?, h0]
theorem five_kept (w : World) (bm : Nat) (a0 a1 a2 a3 a4 : Value) : Kept (fun b => b = bm) w (((((w.setCell ⟨bm, 0, none⟩ a0).setCell ⟨bm, 1, none⟩ a1).setCell ⟨bm, 2, none⟩ a2).setCell ⟨bm, 3, none⟩ a3).setCell ⟨bm, 4, none⟩ a4) :=
  (((((Kept.refl (fun b => b = bm) w).setCell (p := ⟨bm, 0, none⟩) (.inl rfl) _).setCell (p := ⟨bm, 1, none⟩) (.inl rfl) _).setCell (p := ⟨bm, 2, none⟩) (.inl rfl) _).setCell (p := ⟨bm, 3, none⟩) (.inl rfl) _).setCell (p := ⟨bm, 4, none⟩) (.inl rfl) _
/-- the reference's journal is stored anew. -/
theorem JO.store (h : JO W w p pj j F G bm m v bv rv bo ob ot own rows) (hne : bo ≠ bm) {m' : Jn} {v' bv' rv' : Value} (hr : RJv (PJ W w F G bm bo) w m'.st.files m'.base m'.rest v' bv' rv') :
    JO W (((((w.setCell ⟨bm, 0, none⟩ (.int .i64 m'.st.power)).setCell ⟨bm, 1, none⟩ v').setCell ⟨bm, 2, none⟩ (.int .i64 (m'.g : Nat))).setCell ⟨bm, 3, none⟩ bv').setCell ⟨bm, 4, none⟩ rv') p pj j F G bm m' v' bv' rv' bo ob ot own rows := by
  have hK := five_kept w bm (.int .i64 m'.st.power) v' (.int .i64 (m'.g : Nat)) bv' rv'
  obtain ⟨l1, l2⟩ := h.lt
  have hz := h.sz
  have hp := pj_keep (W := W) (F := F) (G := G) (bm := bm) (bo := bo) hK (fun b hb hx => hb.2.2.2.2.1 hx) (Grows.refl _ _) (Grows.refl _ _)
  have hj : JH W.heap.size W (((((w.setCell ⟨bm, 0, none⟩ (.int .i64 m'.st.power)).setCell ⟨bm, 1, none⟩ v').setCell ⟨bm, 2, none⟩ (.int .i64 (m'.g : Nat))).setCell ⟨bm, 3, none⟩ bv').setCell ⟨bm, 4, none⟩ rv') pj p j.st j.g j.base j.rest F G :=
    ⟨⟨h.jh.jf.fs.keep fun k hk => hK.block k (h.jh.jf.fs.lt k hk) (fun e => h.out.1 (e ▸ hk)), h.jh.jf.js.block fun k hk => hK.block k (h.jh.jf.js.lt k hk) (fun e => h.out.2.1 (e ▸ hk)), h.jh.jf.apart⟩, h.jh.fnew, h.jh.gnew, h.jh.below.trans (hK.below hz (fun k hk => by have := h.lo.1; omega))⟩
  have hbx := cells_setCell (cells_setCell (cells_setCell (cells_setCell (cells_setCell h.box 0 (.int .i64 m'.st.power)) 1 v') 2 (.int .i64 (m'.g : Nat))) 3 bv') 4 rv'
  exact ⟨hj, by simpa using hbx, (hK.block _ l2 hne).trans h.obx, h.lo, h.out, hr.keep hp, h.ow.keep hp⟩
/-- the step's first number is another. -/
theorem JO.setW {o0 o1 o2 o3 : Value} (h : JO W w p pj j F G bm m v bv rv bo #[o0, o1, o2, o3] ot own rows) (hne : bo ≠ bm) (x : Value) : JO W (w.setCell ⟨bo, 0, none⟩ x) p pj j F G bm m v bv rv bo #[x, o1, o2, o3] ot own rows := by
  have hK : Kept (fun b => b = bo) w (w.setCell ⟨bo, 0, none⟩ x) := (Kept.refl (fun b => b = bo) w).setCell (p := ⟨bo, 0, none⟩) (.inl rfl) _
  obtain ⟨l1, l2⟩ := h.lt
  have hz := h.sz
  have hp := pj_keep (W := W) (F := F) (G := G) (bm := bm) (bo := bo) hK (fun b hb hx => hb.2.2.2.2.2 hx) (Grows.refl _ _) (Grows.refl _ _)
  have hj : JH W.heap.size W (w.setCell ⟨bo, 0, none⟩ x) pj p j.st j.g j.base j.rest F G :=
    ⟨⟨h.jh.jf.fs.keep fun k hk => hK.block k (h.jh.jf.fs.lt k hk) (fun e => h.out.2.2.1 (e ▸ hk)), h.jh.jf.js.block fun k hk => hK.block k (h.jh.jf.js.lt k hk) (fun e => h.out.2.2.2 (e ▸ hk)), h.jh.jf.apart⟩, h.jh.fnew, h.jh.gnew, h.jh.below.trans (hK.below hz (fun k hk => by have := h.lo.2; omega))⟩
  have hbx := cells_setCell h.obx 0 x
  exact ⟨hj, (hK.block _ l1 (fun e => hne e.symm)).trans h.box, by simpa using hbx, h.lo, h.out, h.ref.keep hp, h.ow.keep hp⟩
theorem four_cells4 {W : World} {b : Nat} {u0 u1 u2 u3 : Value} {t : TypeId} (h : W.heap[b]? = some (.cells #[u0, u1, u2, u3] t (0, 0))) :
    W.cell? ⟨b, 0, none⟩ = some u0 ∧ W.cell? ⟨b, 1, none⟩ = some u1 ∧ W.cell? ⟨b, 2, none⟩ = some u2 ∧ W.cell? ⟨b, 3, none⟩ = some u3 ∧ W.frozen? ⟨b, 0, none⟩ = false := by
  simp [World.cell?, World.frozen?, h]
end
/-- how much a journal holds behind so many steps. -/
structure JInv (j : Jn) (n K sz : Nat) : Prop where
  calm : Calm j.st.files n (K * 100 + 48 * sz)
  power : j.st.power ≤ 9223372036854775807
  base : j.base.length ≤ 400000 ∧ ∀ l ∈ j.base, l.length ≤ 65536
  rest : j.rest.length ≤ 400000 + K ∧ ∀ l ∈ j.rest, l.length ≤ 65536
  gen : j.g ≤ K
theorem JInv.mono {j : Jn} {n K n' K' sz sz' : Nat} (h : JInv j n K sz) (hn : n ≤ n') (hK : K ≤ K') (hs : sz ≤ sz') : JInv j n' K' sz' :=
  ⟨h.calm.mono hn (by have : K * 100 ≤ K' * 100 := Nat.mul_le_mul_right _ hK; omega), h.power, h.base, ⟨by have := h.rest.1; omega, h.rest.2⟩, Nat.le_trans h.gen hK⟩
/-- a record more. -/
def jnApp (j : Jn) (p : List UInt8) : Jn := ⟨(jAppend j.st j.g j.rest p).1, j.g, j.base, (jAppend j.st j.g j.rest p).2.2⟩
theorem JInv.app {j : Jn} {n K sz : Nat} (h : JInv j n K sz) {p : List UInt8} (hp : p.length ≤ 5000) : JInv (jnApp j p) (n + 1) (K + 1) (sz + p.length) := by
  unfold jnApp jAppend
  refine ⟨(append_calm h.calm nLog (frameB j.g p)).mono (by omega) (by rw [frameB_length]; omega), append_power h.power _ _, h.base, ?_, by have := h.gen; simp only; omega⟩
  simp only
  split
  · refine ⟨by have := h.rest.1; simp; omega, fun l hl => ?_⟩
    rcases List.mem_append.1 hl with hl | hl
    · exact h.rest.2 l hl
    · simp at hl; subst hl; omega
  · exact ⟨by have := h.rest.1; omega, h.rest.2⟩
def jnSync (j : Jn) : Jn := ⟨(jSync j.st).1, j.g, j.base, j.rest⟩
theorem jsync_calm {st : St} {k d : Nat} (h : Calm st.files k d) : Calm (jSync st).1.files (k + 1) d := by
  unfold jSync; split
  · exact sync_calm h _
  · exact h.mono (by omega) (Nat.le_refl _)
theorem jsync_power {st : St} (h : st.power ≤ 9223372036854775807) : (jSync st).1.power ≤ 9223372036854775807 := by
  unfold jSync; split
  · exact sync_power h _
  · exact h
theorem JInv.sync {j : Jn} {n K sz : Nat} (h : JInv j n K sz) : JInv (jnSync j) (n + 1) (K + 1) sz :=
  ⟨(jsync_calm h.calm).mono (by omega) (by omega), jsync_power h.power, h.base, ⟨by have := h.rest.1; simp only [jnSync]; omega, h.rest.2⟩, by have := h.gen; simp only [jnSync]; omega⟩
/-- the base anew. -/
def jnLay (j : Jn) (rows : List (List UInt8)) (r : St × Int) : Jn := ⟨r.1, if r.2 = 0 then j.g + 1 else j.g, if r.2 = 0 then rows else j.base, if r.2 = 0 then [] else j.rest⟩
theorem lay_size (g : Nat) (rows : List (List UInt8)) : (encR g (be4 rows.length :: rows)).length ≤ 16 + 12 * sizeR rows := by
  rw [encR_len, List.length_cons, List.flatten_cons, List.length_append, be4_length]
  have := sizeR_flat rows
  omega
theorem JInv.lay {j : Jn} {n K sz : Nat} (h : JInv j n K sz) {rows : List (List UInt8)} (hs : sizeR rows ≤ 5000) {r : St × Int} (hr : laySteps (encR (j.g + 1) (be4 rows.length :: rows)) (stepsOf (hasF j.st.files nLog)) j.st = r) : JInv (jnLay j rows r) (n + 4) (K + 1) (sz + sizeR rows) := by
  have h1 := lay_calm (b := encR (j.g + 1) (be4 rows.length :: rows)) (stepsOf (hasF j.st.files nLog)) h.calm
  have h2 := lay_power (b := encR (j.g + 1) (be4 rows.length :: rows)) (stepsOf (hasF j.st.files nLog)) h.power
  rw [hr] at h1 h2
  have hl := lay_size (j.g + 1) rows
  have hk : (stepsOf (hasF j.st.files nLog)).length ≤ 4 := by unfold stepsOf; split <;> simp
  have hm : (stepsOf (hasF j.st.files nLog)).length * (encR (j.g + 1) (be4 rows.length :: rows)).length ≤ 4 * (16 + 12 * sizeR rows) := Nat.mul_le_mul hk hl
  have hf := sizeR_flat rows
  refine ⟨h1.mono (by omega) (by omega), h2, ?_, ?_, ?_⟩
  · unfold jnLay; simp only; split
    · exact ⟨by omega, fun l hl => by have := sizeR_mem hl; omega⟩
    · exact h.base
  · unfold jnLay; simp only; split
    · exact ⟨by simp, by simp⟩
    · exact ⟨by have := h.rest.1; omega, h.rest.2⟩
  · have := h.gen; unfold jnLay; simp only; split <;> omega
/-- opened anew behind a crash. -/
theorem JInv.opened {j : Jn} {n K sz : Nat} (h : JInv j n K sz) (hK : K ≤ 41) (hsz : sz ≤ 5000) (ks : List Int) {pw : Int} (hpw : pw ≤ 9223372036854775807) {st' : St} {x : Nat × List (List UInt8) × List (List UInt8)} (ho : openSt (stCrash j.st ks pw) = (st', .ok x)) (hg : x.1 ≤ K) : JInv ⟨st', x.1, x.2.1, x.2.2⟩ (n + 1) K sz := by
  have hc : Calm (stCrash j.st ks pw).files n (K * 100 + 48 * sz) := h.calm.crash ks 0
  have h1 := open_calm hc
  have h2 := open_power (st := stCrash j.st ks pw) hpw
  rw [ho] at h1 h2
  obtain ⟨⟨a1, a2⟩, ⟨a3, a4⟩, -⟩ := open_le hc ho
  have : K * 100 ≤ 41 * 100 := Nat.mul_le_mul_right _ hK
  exact ⟨h1, h2, ⟨by simp only; omega, a2⟩, ⟨by simp only; omega, a4⟩, hg⟩
end Go.Proofs.YtpdelgjfamelfaaGreat
/- K15 -/
/- Each call of the law, on both journals. -/
namespace Go.Proofs.YtpdelgjfamelfaaGreat
open Go.RowKit Go.Lib Go.Vfs Go.Par Go.Shelf
set_option linter.unusedVariables false
set_option linter.unusedSimpArgs false

/-- what this law's sizes allow. -/
structure Small (j : Jn) : Prop where
  calm : Calm j.st.files 300 250000
  power : j.st.power ≤ 9223372036854775807
  base : j.base.length ≤ 400000 ∧ ∀ l ∈ j.base, l.length ≤ 65536
  rest : j.rest.length ≤ 500000 ∧ ∀ l ∈ j.rest, l.length ≤ 65536
  gen : j.g ≤ 100
theorem JInv.small {j : Jn} {n K sz : Nat} (h : JInv j n K sz) (hn : n ≤ 300) (hK : K ≤ 41) (hsz : sz ≤ 5000) : Small j := by
  have hK2 : K * 100 ≤ 41 * 100 := Nat.mul_le_mul_right _ hK
  exact ⟨h.calm.mono hn (by omega), h.power, h.base, ⟨by have := h.rest.1; omega, h.rest.2⟩, by have := h.gen; omega⟩
section
variable {W w w' : World} {p pj : Nat} {j : Jn} {F G : Nat → Prop} {bm : Nat} {m : Jn} {v bv rv : Value} {bo : Nat} {ob : Array Value} {ot : TypeId} {own : Value} {rows : List (List UInt8)}
theorem JO.copyB (h : JO W w p pj j F G bm m v bv rv bo ob ot own rows) {A : Option Addr} {c : Nat} {L : List UInt8} (hs : Seg w W.heap.size (.slice A L.length c) (byteCells L)) (hl : L.length ≤ 1000000) :
    Calls Tryz.prog 8 #[.slice A L.length c] w fun e w' => ∃ A2 c2, e = .returned (.slice A2 L.length c2) ∧ Hid (SegS (fun k => k < w'.heap.size ∧ ¬ F k) w' (.slice A2 L.length c2) (byteCells L)) ∧ Hid (JO W w' p pj j F G bm m v bv rv bo ob ot own rows) := by
  refine (copyBytes_any _ _ W.heap.size w hs h.sz hl).mono ?_
  rintro e w' ⟨u, rfl, hu, hb⟩
  obtain ⟨A2, c2, rfl⟩ := Own.formB hu
  exact ⟨A2, c2, rfl, Lib.hid ((own_seg hu).keep fun k hk => ⟨⟨(hu.lt k hk).2, fun hf => by have := h.jh.lt k (.inl hf); have := (hu.lt k hk).1; omega⟩, rfl⟩), Lib.hid (h.go hb)⟩
theorem JO.japp (h : JO W w p pj j F G bm m v bv rv bo ob ot own rows) (hsm : Small j) {A : Option Addr} {c : Nat} {L : List UInt8} (hv : SegS (fun k => k < w.heap.size ∧ ¬ F k) w (.slice A L.length c) (byteCells L)) (hL : L.length ≤ 5000) :
    Calls Tryz.prog 24 #[.pointer (some ⟨pj, 0, none⟩), .slice A L.length c] w fun e w' => ∃ F' G', e = .returned (.int .i64 (jAppend j.st j.g j.rest L).2.1) ∧ Hid (JO W w' p pj (jnApp j L) F' G' bm m v bv rv bo ob ot own rows) := by
  refine (jappend_any h.jh.jf _ L hv (by omega) (hsm.calm.modest hsm.power (by omega) (by omega)) (by have := hsm.rest.1; omega)).mono ?_
  rintro e w' ⟨rfl, hp⟩
  obtain ⟨F', G', h2⟩ := h.jop hp
  exact ⟨F', G', rfl, Lib.hid h2⟩
/-- the cells of the reference's box. -/
def BoxC (bm : Nat) (m : Jn) (v bv rv : Value) (w : World) : Prop :=
  w.cell? ⟨bm, 0, none⟩ = some (.int .i64 m.st.power) ∧ w.cell? ⟨bm, 1, none⟩ = some v ∧ w.cell? ⟨bm, 2, none⟩ = some (.int .i64 (m.g : Nat)) ∧ w.cell? ⟨bm, 3, none⟩ = some bv ∧ w.cell? ⟨bm, 4, none⟩ = some rv ∧
    w.frozen? ⟨bm, 0, none⟩ = false ∧ w.frozen? ⟨bm, 1, none⟩ = false ∧ w.frozen? ⟨bm, 2, none⟩ = false ∧ w.frozen? ⟨bm, 3, none⟩ = false ∧ w.frozen? ⟨bm, 4, none⟩ = false
/-- what a method of the reference leaves, with its answer. -/
def RAns (W : World) (p pj : Nat) (j : Jn) (F G : Nat → Prop) (bm : Nat) (m : Jn) (v bv rv : Value) (bo : Nat) (ob : Array Value) (ot : TypeId) (own : Value) (rows : List (List UInt8)) (m' : Jn) (er : Int) (e : Ending) (w' : World) : Prop :=
  ∃ A n c Ab nb cb Ar nr cr, e = .returned (.tuple #[.agg #[.int .i64 m'.st.power, .slice A n c, .int .i64 (m'.g : Nat), .slice Ab nb cb, .slice Ar nr cr], .int .i64 er]) ∧ Hid (JO W w' p pj j F G bm m v bv rv bo ob ot own rows) ∧ Hid (RJv (PJ W w' F G bm bo) w' m'.st.files m'.base m'.rest (.slice A n c) (.slice Ab nb cb) (.slice Ar nr cr))
theorem JO.ans (h : JO W w p pj j F G bm m v bv rv bo ob ot own rows) {r : St × Int} {g : Nat} {b l : List (List UInt8)} {e : Ending} (hr : RJPost w (PJ W w F G bm bo) r (g : Nat) b l e w') : RAns W p pj j F G bm m v bv rv bo ob ot own rows ⟨r.1, g, b, l⟩ r.2 e w' := by
  obtain ⟨A, n, c, Ab, nb, cb, Ar, nr, cr, rfl, h1, h2⟩ := hr
  exact ⟨A, n, c, Ab, nb, cb, Ar, nr, cr, rfl, Lib.hid (h.go h2), Lib.hid (h.refNew h2 h1)⟩
theorem JO.forms (h : JO W w p pj j F G bm m v bv rv bo ob ot own rows) : (∃ A c, v = .slice A m.st.files.length c) ∧ (∃ A n c, bv = .slice A n c) ∧ ∃ A n c, rv = .slice A n c := by
  obtain ⟨A, c, e, -⟩ := h.ref.ref.form
  exact ⟨⟨A, c, e⟩, h.ref.rb.few, h.ref.rr.few⟩
theorem JO.rapp (h : JO W w p pj j F G bm m v bv rv bo ob ot own rows) (hsm : Small m) {A : Option Addr} {c : Nat} {L : List UInt8} (hv : Seg w W.heap.size (.slice A L.length c) (byteCells L)) (hL : L.length ≤ 5000) :
    Calls Tryz.prog 26 #[.agg #[.int .i64 m.st.power, v, .int .i64 (m.g : Nat), bv, rv], .slice A L.length c] w (RAns W p pj j F G bm m v bv rv bo ob ot own rows (jnApp m L) (jAppend m.st m.g m.rest L).2.1) := by
  obtain ⟨⟨A1, c1, hf1⟩, ⟨A2, n2, c2, hf2⟩, ⟨A3, n3, c3, hf3⟩⟩ := h.forms
  have hr := h.ref
  rw [hf1, hf2, hf3] at hr
  rw [show #[Value.agg #[.int .i64 m.st.power, v, .int .i64 (m.g : Nat), bv, rv], .slice A L.length c] = #[.agg #[.int .i64 m.st.power, .slice A1 m.st.files.length c1, .int .i64 (m.g : Nat), .slice A2 n2 c2, .slice A3 n3 c3], .slice A L.length c] by rw [hf1, hf2, hf3]]
  exact (rjappend_any m.st hsm.power _ w h.hS m.g (by have := hsm.gen; omega) m.base m.rest _ _ _ _ _ _ _ _ _ hr (by have := hsm.calm.files; omega) (fun f hf => by have := hsm.calm.data f hf; omega) A c L (hv.more h.sz) (by omega) (by have := hsm.rest.1; omega) (fun l hl => by have := hsm.rest.2 l hl; omega)).mono fun e w' hp => h.ans hp
theorem JO.jsync (h : JO W w p pj j F G bm m v bv rv bo ob ot own rows) (hsm : Small j) :
    Calls Tryz.prog 27 #[.pointer (some ⟨pj, 0, none⟩)] w fun e w' => ∃ F' G', e = .returned (.int .i64 (_root_.Go.Proofs.YtpdelgjfamelfaaGreat.jSync j.st).2) ∧ Hid (JO W w' p pj (jnSync j) F' G' bm m v bv rv bo ob ot own rows) := by
  refine (jsync_any h.jh.jf (by have := hsm.calm.files; omega) hsm.calm.short hsm.power).mono ?_
  rintro e w' ⟨rfl, hp⟩
  obtain ⟨F', G', h2⟩ := h.jop hp
  exact ⟨F', G', rfl, Lib.hid h2⟩
theorem JO.rsync (h : JO W w p pj j F G bm m v bv rv bo ob ot own rows) (hsm : Small m) :
    Calls Tryz.prog 28 #[.agg #[.int .i64 m.st.power, v, .int .i64 (m.g : Nat), bv, rv]] w (RAns W p pj j F G bm m v bv rv bo ob ot own rows (jnSync m) (_root_.Go.Proofs.YtpdelgjfamelfaaGreat.jSync m.st).2) := by
  obtain ⟨⟨A1, c1, hf1⟩, ⟨A2, n2, c2, hf2⟩, ⟨A3, n3, c3, hf3⟩⟩ := h.forms
  have hr := h.ref
  rw [hf1, hf2, hf3] at hr
  rw [show #[Value.agg #[.int .i64 m.st.power, v, .int .i64 (m.g : Nat), bv, rv]] = #[.agg #[.int .i64 m.st.power, .slice A1 m.st.files.length c1, .int .i64 (m.g : Nat), .slice A2 n2 c2, .slice A3 n3 c3]] by rw [hf1, hf2, hf3]]
  exact (rjsync_any m.st hsm.power _ w h.hS (m.g : Nat) m.base m.rest _ _ _ _ _ _ _ _ _ hr (by have := hsm.calm.files; omega) (fun f hf => by have := hsm.calm.data f hf; omega)).mono fun e w' hp => h.ans hp
theorem JO.jlay (h : JO W w p pj j F G bm m v bv rv bo ob ot own rows) (hsm : Small j) (hs : sizeR rows ≤ 5000) :
    Calls Tryz.prog 29 #[.pointer (some ⟨pj, 0, none⟩), own] w fun e w' => ∃ r F' G', laySteps (encR (j.g + 1) (be4 rows.length :: rows)) (stepsOf (hasF j.st.files nLog)) j.st = r ∧ e = .returned (.int .i64 r.2) ∧ Hid (JO W w' p pj (jnLay j rows r) F' G' bm m v bv rv bo ob ot own rows) := by
  have hf := sizeR_flat rows
  have hl := lay_size (j.g + 1) rows
  refine (jlay_any h.jh.jf own rows (h.ow.keep fun b hb => ⟨⟨hb.2.1, hb.2.2.1, hb.2.2.2.1⟩, rfl⟩) (fun l hl => by have := sizeR_mem hl; omega) (by omega) (by have := hsm.gen; omega) (by omega) hsm.calm (by omega) (by omega) hsm.power).mono ?_
  rintro e w' ⟨r, h1, rfl, hp⟩
  obtain ⟨F', G', h2⟩ := h.jop hp
  exact ⟨r, F', G', h1, rfl, Lib.hid h2⟩
theorem JO.rlay (h : JO W w p pj j F G bm m v bv rv bo ob ot own rows) (hsm : Small m) (hs : sizeR rows ≤ 5000) {A : Option Addr} {c : Nat} (hv : RowsAt (· < W.heap.size) W (.slice A rows.length c) rows) {r : St × Int} (hr : laySteps (encR (m.g + 1) (be4 rows.length :: rows)) (stepsOf (hasF m.st.files nLog)) m.st = r) :
    Calls Tryz.prog 30 #[.agg #[.int .i64 m.st.power, v, .int .i64 (m.g : Nat), bv, rv], .slice A rows.length c] w (RAns W p pj j F G bm m v bv rv bo ob ot own rows (jnLay m rows r) r.2) := by
  obtain ⟨⟨A1, c1, hf1⟩, ⟨A2, n2, c2, hf2⟩, ⟨A3, n3, c3, hf3⟩⟩ := h.forms
  have hrr := h.ref
  rw [hf1, hf2, hf3] at hrr
  have hf := sizeR_flat rows
  have hl := lay_size (m.g + 1) rows
  have hz := h.sz
  rw [show #[Value.agg #[.int .i64 m.st.power, v, .int .i64 (m.g : Nat), bv, rv], .slice A rows.length c] = #[.agg #[.int .i64 m.st.power, .slice A1 m.st.files.length c1, .int .i64 (m.g : Nat), .slice A2 n2 c2, .slice A3 n3 c3], .slice A rows.length c] by rw [hf1, hf2, hf3]]
  refine (rjlay_any m.st hsm.power _ w h.hS m.g (by have := hsm.gen; omega) m.base m.rest _ _ _ _ _ _ _ _ _ hrr hsm.calm (by omega) (by omega) A c rows (hv.keep fun b hb => ⟨by omega, h.below.block b hb⟩) (fun l hl => by have := sizeR_mem hl; omega) (by omega) (by omega)).mono ?_
  rintro e w' ⟨r', e1, hp⟩
  rw [hr] at e1
  subst e1
  exact h.ans hp
theorem JO.sameF (h : JO W w p pj j F G bm m v bv rv bo ob ot own rows) (hsm : Small j) {u : Value} (hu : RefS (PJ W w F G bm bo) w u j.st.files) :
    Calls Tryz.prog 16 #[.pointer (some ⟨p, 0, none⟩), .agg #[.int .i64 j.st.power, u]] w fun e w' => e = .returned (.bool true) ∧ Hid (JO W w' p pj j F G bm m v bv rv bo ob ot own rows) ∧ Hid (Below w.heap.size w w') :=
  (sameFiles_any j.st p F u _ w h.jh.jf.fs h.hS hu 300 250000 hsm.calm (by omega) (by omega)).mono fun e w' ⟨h1, h2⟩ => ⟨h1, Lib.hid (h.go h2), Lib.hid h2⟩
theorem JO.sameOwn (h : JO W w p pj j F G bm m v bv rv bo ob ot own rows) {A : Option Addr} {c : Nat} (hv : RowsAt (· < W.heap.size) W (.slice A rows.length c) rows) :
    Calls Tryz.prog 17 #[own, .slice A rows.length c] w fun e w' => e = .returned (.bool true) ∧ ∃ n, w' = w.drewN n := by
  have hz := h.sz
  have := sameRows_any own (.slice A rows.length c) rows rows w (h.ow.sub fun b hb => hb.2.1) (hv.keep fun b hb => ⟨by omega, h.below.block b hb⟩)
  rw [decide_eq_true rfl] at this
  exact this
theorem JO.jrec (h : JO W w p pj j F G bm m v bv rv bo ob ot own rows) (hsm : Small j) {M : Nat} (hM : M = (j.base ++ j.rest).length) :
    Calls Tryz.prog 18 #[.pointer (some ⟨pj, 0, none⟩)] w fun e w' => ∃ A c, e = .returned (.slice A M c) ∧ Hid (RowsAt (· < w'.heap.size) w' (.slice A M c) (j.base ++ j.rest)) ∧ Hid (JO W w' p pj j F G bm m v bv rv bo ob ot own rows) ∧ Hid (Below w.heap.size w w') := by
  refine (jrecords_any h.jh.jf.js (by have := hsm.base.1; omega) (by have := hsm.rest.1; omega) (fun l hl => by have := hsm.base.2 l hl; omega) (fun l hl => by have := hsm.rest.2 l hl; omega)).mono ?_
  rintro e w' ⟨u, us, rfl, hr⟩
  have hr2 := hr.rows.sub (S' := (· < w'.heap.size)) fun b hb => hb.2
  obtain ⟨A, c, rfl, -, -, -⟩ := hr2.open_
  rw [← hM] at hr2 ⊢
  exact ⟨A, c, rfl, Lib.hid hr2, Lib.hid (h.go hr.below), Lib.hid hr.below⟩
theorem JO.rrec (h : JO W w p pj j F G bm m v bv rv bo ob ot own rows) (hsm : Small m) {M : Nat} (hM : M = (m.base ++ m.rest).length) :
    Calls Tryz.prog 19 #[.agg #[.int .i64 m.st.power, v, .int .i64 (m.g : Nat), bv, rv]] w fun e w' => ∃ A c, e = .returned (.slice A M c) ∧ Hid (RowsAt (· < w'.heap.size) w' (.slice A M c) (m.base ++ m.rest)) ∧ Hid (JO W w' p pj j F G bm m v bv rv bo ob ot own rows) ∧ Hid (Below w.heap.size w w') := by
  obtain ⟨⟨A1, c1, hf1⟩, ⟨A2, n2, c2, hf2⟩, ⟨A3, n3, c3, hf3⟩⟩ := h.forms
  have hrr := h.ref
  rw [hf2, hf3] at hrr
  rw [show #[Value.agg #[.int .i64 m.st.power, v, .int .i64 (m.g : Nat), bv, rv]] = #[.agg #[.int .i64 m.st.power, .slice A1 m.st.files.length c1, .int .i64 (m.g : Nat), .slice A2 n2 c2, .slice A3 n3 c3]] by rw [hf1, hf2, hf3]]
  refine (rrecords_any m.st.power (m.g : Nat) A1 A2 A3 _ c1 n2 c2 n3 c3 m.base m.rest w (hrr.rb.sub fun b hb => hb.2.1) (hrr.rr.sub fun b hb => hb.2.1) (by have := hsm.base.1; omega) (by have := hsm.rest.1; omega) (fun l hl => by have := hsm.base.2 l hl; omega) (fun l hl => by have := hsm.rest.2 l hl; omega)).mono ?_
  rintro e w' ⟨u, rfl, hr, hb⟩
  have hr2 := hr.sub (S' := (· < w'.heap.size)) fun b hb => hb.2
  obtain ⟨A, c, rfl, -, -, -⟩ := hr2.open_
  rw [← hM] at hr2 ⊢
  exact ⟨A, c, rfl, Lib.hid hr2, Lib.hid (h.go hb), Lib.hid hb⟩
/-- behind a crash: another file system, the old journal forgotten. -/
structure JC (W w : World) (p : Nat) (st : St) (F : Nat → Prop) (bm : Nat) (m : Jn) (v bv rv : Value) (bo : Nat) (ob : Array Value) (ot : TypeId) (own : Value) (rows : List (List UInt8)) : Prop where
  held : Held W.heap.size W w p st F
  box : w.heap[bm]? = some (.cells #[.int .i64 m.st.power, v, .int .i64 (m.g : Nat), bv, rv] 45 (0, 0))
  obx : w.heap[bo]? = some (.cells ob ot (0, 0))
  lo : W.heap.size ≤ bm ∧ W.heap.size ≤ bo
  out : ¬ F bm ∧ ¬ F bo
  ref : RJv (PJ W w F (fun _ => False) bm bo) w m.st.files m.base m.rest v bv rv
  ow : RowsAt (PJ W w F (fun _ => False) bm bo) w own rows
theorem JO.crash (h : JO W w p pj j F G bm m v bv rv bo ob ot own rows) (hsm : Small j) {kv : Value} {keeps : List Int} (hkv : Seg w w.heap.size kv (ints keeps)) (pw : Int) :
    Calls Tryz.prog 12 #[.pointer (some ⟨p, 0, none⟩), kv, .int .i64 pw] w fun e w' => ∃ p' F', e = .returned (.pointer (some ⟨p', 0, none⟩)) ∧ Hid (JC W w' p' (stCrash j.st keeps pw) F' bm m v bv rv bo ob ot own rows) := by
  have hh : Held W.heap.size W w p j.st F := ⟨h.jh.jf.fs, h.jh.fnew, h.jh.below⟩
  refine (hh.crash (Nat.le_refl _) hsm.calm (by omega) (by omega) kv keeps hkv pw).mono ?_
  rintro e w' ⟨p', F', rfl, h1, h2, h3, hb⟩
  obtain ⟨l1, l2⟩ := h.lt
  have hs := hb.size
  have hp : ∀ b, PJ W w F G bm bo b → PJ W w' F' (fun _ => False) bm bo b ∧ w'.heap[b]? = w.heap[b]? := fun b ⟨b1, b2, b3, b4, b5, b6⟩ => ⟨⟨b1, by omega, fun hf => by have := h3 _ hf; omega, fun hf => hf, b5, b6⟩, hb.block b b2⟩
  exact ⟨p', F', rfl, Lib.hid ⟨h1, (hb.block _ l1).trans h.box, (hb.block _ l2).trans h.obx, h.lo, ⟨fun hf => by have := h3 _ hf; omega, fun hf => by have := h3 _ hf; omega⟩, h.ref.keep hp, h.ow.keep hp⟩⟩
theorem JC.opened {st : St} {F0 : Nat → Prop} (h : JC W w p st F0 bm m v bv rv bo ob ot own rows) {st' : St} {g : Nat} {ps ls : List (List UInt8)} {e : Ending} (hp : OpenPost w p F0 (st', .ok (g, ps, ls)) e w') : ∃ pj' F' G', e = .returned (.tuple #[.pointer (some ⟨pj', 0, none⟩), .int .i64 0]) ∧ JO W w' p pj' ⟨st', g, ps, ls⟩ F' G' bm m v bv rv bo ob ot own rows := by
  obtain ⟨F', h1, h2, h3, pj', G', rfl, h4, h5⟩ := hp
  have hz := h.held.size (Nat.le_refl _)
  have l1 := lt_of_block h.box
  have l2 := lt_of_block h.obx
  have hks := h2.size
  have hp : ∀ b, PJ W w F0 (fun _ => False) bm bo b → PJ W w' F' G' bm bo b ∧ w'.heap[b]? = w.heap[b]? := fun b ⟨b1, b2, b3, b4, b5, b6⟩ => ⟨⟨b1, by omega, fun hf => by rcases h3 _ hf with a | a; exact b3 a; omega, fun hg => by have := h5 _ hg; omega, b5, b6⟩, h2.block b b2 b3⟩
  refine ⟨pj', F', G', rfl, ⟨h4, fun k hk => ?_, fun k hk => by have := h5 k hk; omega, h.held.below.trans (h2.below hz h.held.new)⟩, (h2.block _ l1 h.out.1).trans h.box, (h2.block _ l2 h.out.2).trans h.obx, h.lo, ⟨fun hf => ?_, fun hg => by have := h5 _ hg; omega, fun hf => ?_, fun hg => by have := h5 _ hg; omega⟩, h.ref.keep hp, h.ow.keep hp⟩
  · rcases h3 k hk with a | a
    · exact h.held.new k a
    · omega
  · rcases h3 _ hf with a | a
    · exact h.out.1 a
    · omega
  · rcases h3 _ hf with a | a
    · exact h.out.2 a
    · omega
/-- that could not be opened. -/
theorem JC.failed {st : St} {F0 : Nat → Prop} (h : JC W w p st F0 bm m v bv rv bo ob ot own rows) {st' : St} {n : Int} {e : Ending} (hp : OpenPost w p F0 (st', .error n) e w') : e = .returned (.tuple #[.pointer none, .int .i64 n]) ∧ ∃ F', JC W w' p st' F' bm m v bv rv bo ob ot own rows := by
  obtain ⟨F', h1, h2, h3, h4⟩ := hp
  have hz := h.held.size (Nat.le_refl _)
  have l1 := lt_of_block h.box
  have l2 := lt_of_block h.obx
  have hks := h2.size
  have hp : ∀ b, PJ W w F0 (fun _ => False) bm bo b → PJ W w' F' (fun _ => False) bm bo b ∧ w'.heap[b]? = w.heap[b]? := fun b ⟨b1, b2, b3, b4, b5, b6⟩ => ⟨⟨b1, by omega, fun hf => by rcases h3 _ hf with a | a; exact b3 a; omega, fun hg => hg, b5, b6⟩, h2.block b b2 b3⟩
  refine ⟨h4, F', ⟨h1, fun k hk => ?_, h.held.below.trans (h2.below hz h.held.new)⟩, (h2.block _ l1 h.out.1).trans h.box, (h2.block _ l2 h.out.2).trans h.obx, h.lo, ⟨fun hf => ?_, fun hf => ?_⟩, h.ref.keep hp, h.ow.keep hp⟩
  · rcases h3 k hk with a | a
    · exact h.held.new k a
    · omega
  · rcases h3 _ hf with a | a
    · exact h.out.1 a
    · omega
  · rcases h3 _ hf with a | a
    · exact h.out.2 a
    · omega
end
end Go.Proofs.YtpdelgjfamelfaaGreat
