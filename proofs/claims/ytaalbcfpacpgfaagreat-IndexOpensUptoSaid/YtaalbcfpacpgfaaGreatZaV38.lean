/- The reference's file system: Append. -/
import Derived.Deep.RegionWith
import Derived.Deep.DeepCutAuto
import Derived.BigRegion
import Derived.Test.YtaalbcfpacpgfaaGreatZaM5
set_option linter.unusedVariables false
set_option linter.unusedSimpArgs false
namespace Go.Proofs.YtaalbcfpacpgfaaGreat
open Go.RowKit Go.Lib Go.Vfs Go.Par
set_option maxRecDepth 20000 in
set_option maxHeartbeats 2000000 in
theorem rappend_any (st:St) (hp:st.power≤9223372036854775807) (v:Value) (S:Nat→Prop) (w:World) (hS:∀ b,S b→b < w.heap.size) (h:RefS S w v st.files) (s:List UInt8) (hs:s.length≤9223372036854775807) (hl:st.files.length≤900000) (hd:∀ f∈st.files,f.data.length≤1000000)
  (pv:Value) (ls:List (List UInt8)) (hpv:RowsAt (· < w.heap.size) w pv ls) (hpl:ls.flatten.length≤1000000) :
  Calls Tryz.prog 14 #[.agg #[.int .i64 st.power,v],.string ⟨s.toArray⟩,pv] w (RPost w S (stAppend st s ls.flatten)):=by
 obtain ⟨pow,fs⟩:=st
 simp only at hp h hl hd ⊢
 obtain ⟨A,c,rfl,hc,hm⟩:=h.form
 have H:=Lib.hid h;clear h
 have HS:=Lib.hid hS;clear hS
 have HDL:=Lib.hid hd;clear hd
 have b1:=BoxI.start w pow A fs.length c
 have HS1:Hid (∀ b,S b→b < (Boxed w pow A fs.length c).heap.size):=Lib.hid fun b hb=>by have:=HS.out b hb;rw [boxed_size];omega
 obtain ⟨vs,hvl,⟨Ap,cp,rfl,hcp,hmp,hat⟩,hrows⟩:=hpv
 have hmp':cp≤9223372036854775807:=by simpa [maxLen] using hmp
 have HRW:=Lib.hid hrows;have HATP:=Lib.hid hat;have HVL:=Lib.hid hvl;clear hrows hat hvl
 have hck:=rcheck_any pow _ fs S _ HS1.out (b1.old HS.out H.out) s hs false
 have B1:=Lib.hid b1;have HCK:=Lib.hid hck;clear b1 hck
 cases hn:nameB s with
 | false =>
  have e1:chk fs s false=10:=by unfold chk;rw [hn];rfl
  have HST:=Lib.hid (stAppend_no (st:=⟨pow,fs⟩) (L:=ls.flatten) hn)
  rw [e1] at HCK
  clear e1 hn
  go_enter Tryz.func14,Tryz.ntmps14
  go_wp2_with fail
  refine HCK.out.mono ?_
  rintro e w2 ⟨rfl,hb2⟩
  have B2:=Lib.hid (B1.out.go hb2)
  obtain ⟨x0,x1,x2,x3,x4,x5,x6,x7⟩:=B2.out.cells
  clear hb2 HCK B1
  go_wp2
  refine bodyPost_ret (v:=.tuple #[.agg #[.int .i64 pow,.slice A fs.length c],.int .i64 10]) (by simp [results,Tryz.results14,go_sem,x0,x1,x2,x3,x4,x5,x6,x7]) rfl ?_
  rw [HST.out]
  exact ⟨_,rfl,B2.out.done HS.out (RefS.mid (B2.out.old HS.out H.out)) (((Kept.refl (fun b=>b=w.heap.size∨b=w.heap.size+1) w2).setCell (p:=⟨w.heap.size+1,0,none⟩) (.inl (.inr rfl)) _).setCell (p:=⟨w.heap.size+1,1,none⟩) (.inl (.inr rfl)) _)⟩
 | true =>
  have e1:chk fs s false=0:=by unfold chk;rw [hn];rfl
  have hst:stAppend ⟨pow,fs⟩ s ls.flatten=doSt ⟨pow,fs⟩ (appF s ls.flatten fs):=by unfold stAppend;rw [hn];rfl
  have HST:=Lib.hid hst
  rw [e1] at HCK
  clear e1 hn hst
  go_enter Tryz.func14,Tryz.ntmps14
  go_wp2_with fail
  refine HCK.out.mono ?_
  rintro e w2 ⟨rfl,hb2⟩
  have B2:=Lib.hid (B1.out.go hb2)
  obtain ⟨x0,x1,x2,x3,x4,x5,x6,x7⟩:=B2.out.cells
  clear hb2 HCK B1
  go_wp2_with fail
  refine (rdraw_any pow hp A fs.length c w2).mono ?_
  rintro e w3 ⟨rfl,hb3⟩
  have B3:=Lib.hid (B2.out.go hb3)
  clear x0 x1 x2 x3 x4 x5 x6 x7 hb3 B2
  obtain ⟨x0,x1,x2,x3,x4,x5,x6,x7⟩:=B3.out.cells
  by_cases hp0:pow=0
  ·subst hp0
   have HD:=Lib.hid (doSt_down (st:=⟨0,fs⟩) (fs:=appF s ls.flatten fs) rfl)
   rw [if_pos rfl,show dec 0=0 from rfl]
   go_wp2
   refine bodyPost_ret (v:=.tuple #[.agg #[.int .i64 0,.slice A fs.length c],.int .i64 13]) (by simp [results,Tryz.results14,go_sem,x0,x1,x2,x3,x4,x5,x6,x7]) rfl ?_
   rw [HST.out,HD.out]
   exact ⟨_,rfl,B3.out.done HS.out (RefS.mid (B3.out.old HS.out H.out)) (((((Kept.refl (fun b=>b=w.heap.size∨b=w.heap.size+1) w3).setCell (p:=⟨w.heap.size,0,none⟩) (.inl (.inl rfl)) _).setCell (p:=⟨w.heap.size,1,none⟩) (.inl (.inl rfl)) _).setCell (p:=⟨w.heap.size+1,0,none⟩) (.inl (.inr rfl)) _).setCell (p:=⟨w.heap.size+1,1,none⟩) (.inl (.inr rfl)) _)⟩
  ·have HD:=Lib.hid (doSt_do (st:=⟨pow,fs⟩) (fs:=appF s ls.flatten fs) hp0)
   rw [if_neg hp0]
   clear hp0
   have B4:=Lib.hid (B3.out.store (dec pow) (.slice A fs.length c))
   generalize dec pow=pd at *
   have M4:=Lib.hid (xm_zero (S:=S) B4.out s)
   have hz4:((w3.setCell ⟨w.heap.size,0,none⟩ (.int .i64 pd)).setCell ⟨w.heap.size,1,none⟩ (.slice A fs.length c)).heap.size=w3.heap.size:=by simp
   rw [hz4] at M4
   have hz3:=B3.out.size
   have hz3a:w.heap.size < w3.heap.size:=by omega
   have hz3b:¬ w.heap.size=w3.heap.size:=by omega
   have hz3c:¬ w3.heap.size=w.heap.size:=by omega
   go_wp2_with fail
   refine (rat_any pd _ fs S _ (fun b hb=>by have:=HS.out b hb;have:=M4.out.box.size;omega) (M4.out.box.old HS.out H.out) s).mono ?_
   rintro e w5 ⟨hb5,ha5⟩
   have M5:=Lib.hid (M4.out.go HS.out hb5)
   clear hz3a hz3b hz3c
   generalize w3.heap.size=bx at *
   clear x0 x1 x2 x3 x4 x5 x6 x7 hb5 M4 B4 B3 hz4
   rcases ha5 with ⟨i,hi,rfl,hfi⟩|⟨rfl,hfi⟩
   ·obtain ⟨f,hf⟩:∃ f,fs[i]=f:=⟨_,rfl⟩
    rw [hf] at hfi
    obtain ⟨b,off,Au,cu,rfl,hb,g0,g1,g2,g3⟩:=found_cells H.out HS.out M5.out.box.below hi hf
    have HFL:Hid (f.data.length≤1000000):=Lib.hid (HDL.out f (findL_inR hfi))
    have HAP:Hid (appF s ls.flatten fs=withL File.name ⟨f.name,f.data ++ ls.flatten,f.safe⟩ fs):=Lib.hid (by unfold appF;rw [hfi,findL_nameR hfi])
    obtain ⟨⟨x0,x1,x2,x3,x4,x5,x6,x7⟩,⟨q0,q1,q2,q3,q4,q5⟩,n0,n1,n2,n3⟩:=M5.out.cells
    have M6:=Lib.hid (M5.out.setBox HS.out (x':=f) (Au':=Au) (cu':=cu) ((((Kept.refl (fun b=>b=bx) w5).setCell (p:=⟨bx,0,none⟩) (.inl rfl) (.string ⟨f.name.toArray⟩)).setCell (p:=⟨bx,1,none⟩) (.inl rfl) (.slice Au f.data.length cu)).setCell (p:=⟨bx,2,none⟩) (.inl rfl) (.int .i64 f.safe)) (three_setCell (three_setCell (three_setCell M5.out.hx _).1 _).2.1 _).2.2 (g3.keep fun b hbb=>⟨⟨.inl hbb,by have:=HS.out b hbb;have:=M5.out.lo;omega⟩,M5.out.box.below.block b (HS.out b hbb)⟩))
    clear g3 hf hfi M5
    go_upto_region 11 with fail
    clear x0 x1 x2 x3 x4 x5 x6 x7 q0 q1 q2 q3 q4 q5 n0 n1 n2 n3
    obtain ⟨⟨x0,x1,x2,x3,x4,x5,x6,x7⟩,⟨q0,q1,q2,q3,q4,q5⟩,n0,n1,n2,n3⟩:=M6.out.cells
    have HCP:=Lib.hid (M6.out.copy HS.out HFL.out)
    go_wp2_with fail
    refine HCP.out.mono ?_
    rintro e w6 ⟨W0,u,rfl,M0,HU,HB6⟩
    clear x0 x1 x2 x3 x4 x5 x6 x7 q0 q1 q2 q3 q4 q5 n0 n1 n2 n3 HCP M6
    go_wp2_with fail
    go_loopw [11,12] (fun u i wr=>∃ k:Nat,k≤vs.length∧i=.int .i64 k∧Hid (Par.Own wr W0.heap.size 5 u (byteCells (f.data ++ (ls.take k).flatten)))∧Hid (Below W0.heap.size W0 wr)) (fun _ i _=>vs.length - (intOf i).toNat)
    case atStart=>exact ⟨0,by omega,rfl,Lib.hid (by simpa using HU.out),HB6⟩
    case round =>
     obtain ⟨k,hk,rfl,HUk,HBk⟩:=hrel
     have hbw:Below w.heap.size w wr:=M0.out.box.below.trans (HBk.out.mono (by have:=M0.out.box.size;omega))
     have hzk:=HBk.out.size
     by_cases hlt:k < vs.length
     ·obtain ⟨b,off,rfl,hb,hcell⟩:=HATP.out (by omega)
      have hck:wr.cell? ⟨b,off+k,none⟩=some (vs.getD k (.bool false)):=by
       rw [hbw.cell (p:=⟨b,off+k,none⟩) hb,hcell k hlt,List.getD_eq_getElem?_getD,List.getElem?_eq_getElem hlt]
       rfl
      have hsk:Seg wr w.heap.size (vs.getD k (.bool false)) (byteCells (ls.getD k [])):=Seg.below (B:=w.heap.size) (HRW.out k (by rw [←HVL.out];exact hlt)) hbw
      have hlk:=flat_le ls k (by rw [←HVL.out];exact hlt)
      have HFS:=Lib.hid (flat_succ ls k (by rw [←HVL.out];exact hlt))
      clear hcell hbw
      generalize vs.getD k (.bool false)=uk at *
      generalize ls.getD k []=L at *
      have hown:=HUk.out
      have HFL2:=HFL.out
      go_wp2_with (at_builtin;refine wpList_app _ rfl _ _ _ rfl W0.heap.size 5 _ byteE _ _ rfl hown _ _ _ rfl hsk (one_bytes _) ?c1 ?c2 ?_)
      case c1=>rw [byteCells_length,byteCells_length,List.length_append];omega
      case c2=>exact hzk
      intro v3 w3 hown4 hg3 hat3
      have HB3:=Lib.hid (below_app HBk.out hown hg3 hzk)
      rw [←byteCells_append,List.append_assoc,←HFS.out] at hown4
      have HU3:=Lib.hid hown4
      clear hown4 hg3 hat3 hown hsk hck HFS HUk
      go_wp2
      go_roundw
      case rel=>exact ⟨k+1,by omega,by go_num,HU3,HB3⟩
      case measure=>simp [intOf];omega
     ·have hkl:k=vs.length:=by omega
      have hU:=HUk.out
      rw [hkl,HVL.out,List.take_length] at hU
      obtain ⟨D,hD⟩:∃ D,D=f.data ++ ls.flatten:=⟨_,rfl⟩
      rw [←hD] at hU HAP
      clear hD HUk
      obtain ⟨A7,c7,hf7⟩:=hU.form
      rw [byteCells_length] at hf7
      subst hf7
      have M45:=Lib.hid (M0.out.go HS.out HBk.out)
      have M7:=Lib.hid (M0.out.setData HS.out HBk.out rfl hU)
      obtain ⟨⟨x0,x1,x2,x3,x4,x5,x6,x7⟩,⟨q0,q1,q2,q3,q4,q5⟩,n0,n1,n2,n3⟩:=M45.out.cells
      have HWI:=Lib.hid (M7.out.with HS.out (RefS.mid (M7.out.box.old HS.out H.out)) (by omega))
      clear hU M0 M45 HBk hbw
      simp only at HWI
      go_wp2_with fail
      refine HWI.out.mono ?_
      rintro e w8 ⟨A8,n8,c8,rfl,HM8⟩
      clear x0 x1 x2 x3 x4 x5 x6 x7 q0 q1 q2 q3 q4 q5 n0 n1 n2 n3 HWI M7
      obtain ⟨x0,x1,x2,x3,x4,x5,x6,x7⟩:=HM8.out.2.box.cells
      go_wp2
      refine bodyPost_ret (v:=.tuple #[.agg #[.int .i64 pd,.slice A8 n8 c8],.int .i64 0]) (by simp [results,Tryz.results14,go_sem,x0,x1,x2,x3,x4,x5,x6,x7]) rfl ?_
      rw [HST.out,HD.out,HAP.out]
      exact ⟨_,rfl,HM8.out.2.done HS.out HM8.out.1 (((Kept.refl (fun b=>b=w.heap.size∨b=w.heap.size+1) w8).setCell (p:=⟨w.heap.size+1,0,none⟩) (.inl (.inr rfl)) _).setCell (p:=⟨w.heap.size+1,1,none⟩) (.inl (.inr rfl)) _)⟩
   ·obtain ⟨d0,hd0⟩:∃ d:List UInt8,d=[]:=⟨_,rfl⟩
    have HFL:Hid (d0.length≤1000000):=Lib.hid (by rw [hd0];simp)
    have HAP:Hid (appF s ls.flatten fs=withL File.name ⟨s,d0 ++ ls.flatten,0⟩ fs):=Lib.hid (by unfold appF;rw [hfi,hd0];rfl)
    rw [←hd0] at M5
    clear hfi hd0
    obtain ⟨⟨x0,x1,x2,x3,x4,x5,x6,x7⟩,⟨q0,q1,q2,q3,q4,q5⟩,n0,n1,n2,n3⟩:=M5.out.cells
    have HCP:=Lib.hid (M5.out.copy HS.out HFL.out)
    go_wp2_with fail
    refine HCP.out.mono ?_
    rintro e w6 ⟨W0,u,rfl,M0,HU,HB6⟩
    clear x0 x1 x2 x3 x4 x5 x6 x7 q0 q1 q2 q3 q4 q5 n0 n1 n2 n3 HCP M5
    go_wp2_with fail
    go_loopw [11,12] (fun u i wr=>∃ k:Nat,k≤vs.length∧i=.int .i64 k∧Hid (Par.Own wr W0.heap.size 5 u (byteCells (d0 ++ (ls.take k).flatten)))∧Hid (Below W0.heap.size W0 wr)) (fun _ i _=>vs.length - (intOf i).toNat)
    case atStart=>exact ⟨0,by omega,rfl,Lib.hid (by simpa using HU.out),HB6⟩
    case round =>
     obtain ⟨k,hk,rfl,HUk,HBk⟩:=hrel
     have hbw:Below w.heap.size w wr:=M0.out.box.below.trans (HBk.out.mono (by have:=M0.out.box.size;omega))
     have hzk:=HBk.out.size
     by_cases hlt:k < vs.length
     ·obtain ⟨b,off,rfl,hb,hcell⟩:=HATP.out (by omega)
      have hck:wr.cell? ⟨b,off+k,none⟩=some (vs.getD k (.bool false)):=by
       rw [hbw.cell (p:=⟨b,off+k,none⟩) hb,hcell k hlt,List.getD_eq_getElem?_getD,List.getElem?_eq_getElem hlt]
       rfl
      have hsk:Seg wr w.heap.size (vs.getD k (.bool false)) (byteCells (ls.getD k [])):=Seg.below (B:=w.heap.size) (HRW.out k (by rw [←HVL.out];exact hlt)) hbw
      have hlk:=flat_le ls k (by rw [←HVL.out];exact hlt)
      have HFS:=Lib.hid (flat_succ ls k (by rw [←HVL.out];exact hlt))
      clear hcell hbw
      generalize vs.getD k (.bool false)=uk at *
      generalize ls.getD k []=L at *
      have hown:=HUk.out
      have HFL2:=HFL.out
      go_wp2_with (at_builtin;refine wpList_app _ rfl _ _ _ rfl W0.heap.size 5 _ byteE _ _ rfl hown _ _ _ rfl hsk (one_bytes _) ?c1 ?c2 ?_)
      case c1=>rw [byteCells_length,byteCells_length,List.length_append];omega
      case c2=>exact hzk
      intro v3 w3 hown4 hg3 hat3
      have HB3:=Lib.hid (below_app HBk.out hown hg3 hzk)
      rw [←byteCells_append,List.append_assoc,←HFS.out] at hown4
      have HU3:=Lib.hid hown4
      clear hown4 hg3 hat3 hown hsk hck HFS HUk
      go_wp2
      go_roundw
      case rel=>exact ⟨k+1,by omega,by go_num,HU3,HB3⟩
      case measure=>simp [intOf];omega
     ·have hkl:k=vs.length:=by omega
      have hU:=HUk.out
      rw [hkl,HVL.out,List.take_length] at hU
      obtain ⟨D,hD⟩:∃ D,D=d0 ++ ls.flatten:=⟨_,rfl⟩
      rw [←hD] at hU HAP
      clear hD HUk
      obtain ⟨A7,c7,hf7⟩:=hU.form
      rw [byteCells_length] at hf7
      subst hf7
      have M45:=Lib.hid (M0.out.go HS.out HBk.out)
      have M7:=Lib.hid (M0.out.setData HS.out HBk.out rfl hU)
      obtain ⟨⟨x0,x1,x2,x3,x4,x5,x6,x7⟩,⟨q0,q1,q2,q3,q4,q5⟩,n0,n1,n2,n3⟩:=M45.out.cells
      have HWI:=Lib.hid (M7.out.with HS.out (RefS.mid (M7.out.box.old HS.out H.out)) (by omega))
      clear hU M0 M45 HBk hbw
      simp only at HWI
      go_wp2_with fail
      refine HWI.out.mono ?_
      rintro e w8 ⟨A8,n8,c8,rfl,HM8⟩
      clear x0 x1 x2 x3 x4 x5 x6 x7 q0 q1 q2 q3 q4 q5 n0 n1 n2 n3 HWI M7
      obtain ⟨x0,x1,x2,x3,x4,x5,x6,x7⟩:=HM8.out.2.box.cells
      go_wp2
      refine bodyPost_ret (v:=.tuple #[.agg #[.int .i64 pd,.slice A8 n8 c8],.int .i64 0]) (by simp [results,Tryz.results14,go_sem,x0,x1,x2,x3,x4,x5,x6,x7]) rfl ?_
      rw [HST.out,HD.out,HAP.out]
      exact ⟨_,rfl,HM8.out.2.done HS.out HM8.out.1 (((Kept.refl (fun b=>b=w.heap.size∨b=w.heap.size+1) w8).setCell (p:=⟨w.heap.size+1,0,none⟩) (.inl (.inr rfl)) _).setCell (p:=⟨w.heap.size+1,1,none⟩) (.inl (.inr rfl)) _)⟩
end Go.Proofs.YtaalbcfpacpgfaaGreat
