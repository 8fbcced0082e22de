/- The reference's file system: Truncate. -/
import Derived.Deep.RegionWith
import Derived.Deep.DeepCutAuto
import Derived.BigRegion
import Derived.Test.YtaalbcfpacpgfaaGreatZaM5
set_option linter.unusedVariables false
set_option linter.unusedSimpArgs false
namespace Go.Proofs.YtaalbcfpacpgfaaGreat
open Go.RowKit Go.Lib Go.Vfs Go.Par
theorem at_new {W w:World} {S:Nat→Prop} {pd:Int} {A:Option Addr} {c:Nat} {fs:List File} {s:List UInt8} {f:File} {z0 z1 z2:Value}
  (h:Calls Tryz.prog 52 #[.agg #[.int .i64 pd,.slice A fs.length c],.string ⟨s.toArray⟩] ((W.alloc (.cells #[z0,z1,z2] 109)).drew) fun e w5=>∃ (i b off:Nat) (Au:Option Addr) (cu:Nat),e=.returned (.int .i64 (i:Nat))∧A=some ⟨b,off,none⟩ ∧
   Hid (Below ((W.alloc (.cells #[z0,z1,z2] 109)).drew).heap.size ((W.alloc (.cells #[z0,z1,z2] 109)).drew) w5∧BoxI w pd (.slice A fs.length c) w5) ∧
   (i < fs.length∧b < w5.heap.size∧w.heap.size < w5.heap.size∧¬ w.heap.size=w5.heap.size∧¬ w5.heap.size=w.heap.size∧¬ b=w5.heap.size∧(∀ k,w.heap.size≤k→¬ b=k)) ∧
   (w5.cell? ⟨w.heap.size,0,none⟩=some (.int .i64 pd)∧w5.cell? ⟨w.heap.size,1,none⟩=some (.slice A fs.length c)∧w5.frozen? ⟨w.heap.size,0,none⟩=false∧w5.frozen? ⟨w.heap.size,1,none⟩=false ∧
    w5.cell? ⟨w.heap.size+1,0,none⟩=some (.int .i64 0)∧w5.cell? ⟨w.heap.size+1,1,none⟩=some (.slice none 0 0)∧w5.frozen? ⟨w.heap.size+1,0,none⟩=false∧w5.frozen? ⟨w.heap.size+1,1,none⟩=false) ∧
   w5.cell? ⟨b,off+i * 3,none⟩=some (.string ⟨f.name.toArray⟩)∧w5.cell? ⟨b,off+i * 3+1,none⟩=some (.slice Au f.data.length cu)∧w5.cell? ⟨b,off+i * 3+2,none⟩=some (.int .i64 f.safe)∧Hid (SegS S w (.slice Au f.data.length cu) (byteCells f.data))) :
  Calls Tryz.prog 52 #[.agg #[.int .i64 pd,.slice A fs.length c],.string ⟨s.toArray⟩] ((W.alloc (.cells #[z0,z1,z2] 109)).drew) fun e w5=>∃ (i b off:Nat) (Au:Option Addr) (cu:Nat),e=.returned (.int .i64 (i:Nat))∧A=some ⟨b,off,none⟩ ∧
   Hid (Below ((W.alloc (.cells #[z0,z1,z2] 109)).drew).heap.size ((W.alloc (.cells #[z0,z1,z2] 109)).drew) w5∧BoxI w pd (.slice A fs.length c) w5) ∧
   Hid (w5.heap[W.heap.size]? = some (.cells #[z0,z1,z2] 109 (0,0))) ∧
   (w5.cell? ⟨W.heap.size,0,none⟩=some z0∧w5.cell? ⟨W.heap.size,1,none⟩=some z1∧w5.cell? ⟨W.heap.size,2,none⟩=some z2∧w5.frozen? ⟨W.heap.size,0,none⟩=false∧w5.frozen? ⟨W.heap.size,1,none⟩=false∧w5.frozen? ⟨W.heap.size,2,none⟩=false) ∧
   (i < fs.length∧b < w5.heap.size∧w.heap.size < w5.heap.size∧¬ w.heap.size=w5.heap.size∧¬ w5.heap.size=w.heap.size∧¬ b=w5.heap.size∧(∀ k,w.heap.size≤k→¬ b=k)) ∧
   (w5.cell? ⟨w.heap.size,0,none⟩=some (.int .i64 pd)∧w5.cell? ⟨w.heap.size,1,none⟩=some (.slice A fs.length c)∧w5.frozen? ⟨w.heap.size,0,none⟩=false∧w5.frozen? ⟨w.heap.size,1,none⟩=false ∧
    w5.cell? ⟨w.heap.size+1,0,none⟩=some (.int .i64 0)∧w5.cell? ⟨w.heap.size+1,1,none⟩=some (.slice none 0 0)∧w5.frozen? ⟨w.heap.size+1,0,none⟩=false∧w5.frozen? ⟨w.heap.size+1,1,none⟩=false) ∧
   w5.cell? ⟨b,off+i * 3,none⟩=some (.string ⟨f.name.toArray⟩)∧w5.cell? ⟨b,off+i * 3+1,none⟩=some (.slice Au f.data.length cu)∧w5.cell? ⟨b,off+i * 3+2,none⟩=some (.int .i64 f.safe)∧Hid (SegS S w (.slice Au f.data.length cu) (byteCells f.data)):=by
 refine h.mono ?_
 rintro e w5 ⟨i,b,off,Au,cu,h1,h2,h3,h4,h5,h6,h7,h8,h9⟩
 have hz:=x_zero h3.out.1
 exact ⟨i,b,off,Au,cu,h1,h2,h3,Lib.hid hz,three_cells hz,h4,h5,h6,h7,h8,h9⟩
set_option maxRecDepth 20000 in
set_option maxHeartbeats 2000000 in
theorem rtruncate_any (st:St) (hp:st.power≤9223372036854775807) (v:Value) (S:Nat→Prop) (w:World) (hS:∀ b,S b→b < w.heap.size) (h:RefS S w v st.files) (s:List UInt8) (hs:s.length≤9223372036854775807) (hl:st.files.length≤900000) (hd:∀ f∈st.files,f.data.length≤1000000) (n:Int) :
  Calls Tryz.prog 100 #[.agg #[.int .i64 st.power,v],.string ⟨s.toArray⟩,.int .i64 n] w (RPost w S (stTruncate st s n)):=by
 obtain ⟨pow,fs⟩:=st
 simp only at hp h hl hd ⊢
 obtain ⟨A,c,rfl,hc,hm⟩:=h.form
 have H:=Lib.hid h;clear h
 have HS:=Lib.hid hS;clear hS
 have HDL:=Lib.hid hd;clear hd
 have b1:=BoxI.start w pow A fs.length c
 have HS1:Hid (∀ b,S b→b < (Boxed w pow A fs.length c).heap.size):=Lib.hid fun b hb=>by have:=HS.out b hb;rw [boxed_size];omega
 have hck:=rcheck_any pow _ fs S _ HS1.out (b1.old HS.out H.out) s hs true
 have B1:=Lib.hid b1;have HCK:=Lib.hid hck;clear b1 hck
 cases hf:stFind ⟨pow,fs⟩ s with
 | error er =>
  obtain ⟨e1,e2⟩:=chk_err hf
  have HST:=Lib.hid (stTruncate_err (m:=n) hf)
  simp only at e1
  rw [e1] at HCK
  clear e1 hf
  go_enter Tryz.func100,Tryz.ntmps100
  go_wp2_with fail
  refine HCK.out.mono ?_
  rintro e w2 ⟨rfl,hb2⟩
  have B2:=Lib.hid (B1.out.go hb2)
  obtain ⟨x0,x1,x2,x3,x4,x5,x6,x7⟩:=B2.out.cells
  clear hb2 HCK B1
  go_wp2
  refine bodyPost_ret (v:=.tuple #[.agg #[.int .i64 pow,.slice A fs.length c],.int .i64 er]) (by simp [results,Tryz.results100,go_sem,x0,x1,x2,x3,x4,x5,x6,x7]) rfl ?_
  rw [HST.out]
  exact ⟨_,rfl,B2.out.done HS.out (RefS.mid (B2.out.old HS.out H.out)) (((Kept.refl (fun b=>b=w.heap.size∨b=w.heap.size+1) w2).setCell (p:=⟨w.heap.size+1,0,none⟩) (.inl (.inr rfl)) _).setCell (p:=⟨w.heap.size+1,1,none⟩) (.inl (.inr rfl)) _)⟩
 | ok f =>
  obtain ⟨e1,e2⟩:=chk_ok hf
  have HF:=Lib.hid hf
  simp only at e1 e2
  rw [e1] at HCK
  have HFD:=Lib.hid e2
  have hfl:f.data.length≤1000000:=HDL.out f (findL_inR e2)
  clear e1 e2 hf
  go_enter Tryz.func100,Tryz.ntmps100
  go_wp2_with fail
  refine HCK.out.mono ?_
  rintro e w2 ⟨rfl,hb2⟩
  have B4:=Lib.hid (B1.out.go hb2)
  obtain ⟨x0,x1,x2,x3,x4,x5,x6,x7⟩:=B4.out.cells
  clear hb2 HCK B1
  have HAT:=Lib.hid (at_box (fun W hW=>rat_found (S:=S) (pow:=pow) (s:=s) (f:=f) (fun b hb=>by have:=HS.out b hb;have:=hW.size;omega) (hW.old HS.out H.out) HFD.out) HS.out H.out)
  go_upto_region 4 with fail
  go_cut [9] (fun px wx=>∃ bx,px=.pointer (some ⟨bx,0,none⟩)∧Hid (XIv w S pow (.slice A fs.length c) f bx wx))
  case first =>
   have hz3:w.heap.size+2≤w2.heap.size:=B4.out.size
   have hz3a:w.heap.size < w2.heap.size:=by omega
   have hz3b:¬ w.heap.size=w2.heap.size:=by omega
   have hz3c:¬ w2.heap.size=w.heap.size:=by omega
   have HA1:=Lib.hid (HAT.out _ (B4.out.go ((Below.refl _ w2).drew)))
   have HA2:=Lib.hid (at_new (HAT.out _ (B4.out.go (((Below.refl _ w2).alloc (Nat.le_refl _) (.cells #[.string ⟨#[]⟩,.slice none 0 0,.int .i64 0] 109)).drew))))
   clear HAT
   go_region_with (first
    | (go_at_call 52;refine HA2.out.mono ?_;rintro e w5 ⟨i,b,off,Au,cu,rfl,rfl,HB5,HXZ,⟨q0,q1,q2,q3,q4,q5⟩,⟨hi,hb,hz5,hz5a,hz5b,hz5c,hz5d⟩,⟨y0,y1,y2,y3,y4,y5,y6,y7⟩,g0,g1,g2,G3⟩)
    | (go_at_call 52;refine HA1.out.mono ?_;rintro e w5 ⟨i,b,off,Au,cu,rfl,rfl,HB5,⟨hi,hb,hz5,hz5a,hz5b,hz5c,hz5d⟩,⟨y0,y1,y2,y3,y4,y5,y6,y7⟩,g0,g1,g2,G3⟩))
   all_goals (
    go_wp2_with fail
    go_meet
    first
    | exact ⟨_,rfl,Lib.hid (xi_new HB5.out.2 G3.out)⟩
    | exact ⟨_,rfl,Lib.hid (xi_set HB5.out.2 G3.out hz3 HXZ.out)⟩)
  case rest =>
   obtain ⟨bx,rfl,HX⟩:=hcut
   clear x0 x1 x2 x3 x4 x5 x6 x7 HAT B4
   obtain ⟨Au,cu,hM⟩:=HX.out.toM HS.out
   have M0:=Lib.hid hM;clear hM HX
   obtain ⟨⟨x0,x1,x2,x3,x4,x5,x6,x7⟩,⟨q0,q1,q2,q3,q4,q5⟩,n0,n1,n2,n3⟩:=M0.out.cells
   by_cases hn0:n < 0
   ·have HST:=Lib.hid (stTruncate_range HF.out (.inl hn0))
    go_wp2
    refine bodyPost_ret (v:=.tuple #[.agg #[.int .i64 pow,.slice A fs.length c],.int .i64 12]) (by simp [results,Tryz.results100,go_sem,x0,x1,x2,x3,x4,x5,x6,x7]) rfl ?_
    rw [HST.out]
    exact ⟨_,rfl,M0.out.done HS.out (RefS.mid (M0.out.box.old HS.out H.out)) (((Kept.refl (fun b=>b=w.heap.size∨b=w.heap.size+1) _).setCell (p:=⟨w.heap.size+1,0,none⟩) (.inl (.inr rfl)) _).setCell (p:=⟨w.heap.size+1,1,none⟩) (.inl (.inr rfl)) _)⟩
   ·by_cases hn1:(f.data.length:Int) < n
    ·have HST:=Lib.hid (stTruncate_range HF.out (.inr hn1))
     go_wp2
     refine bodyPost_ret (v:=.tuple #[.agg #[.int .i64 pow,.slice A fs.length c],.int .i64 12]) (by simp [results,Tryz.results100,go_sem,x0,x1,x2,x3,x4,x5,x6,x7]) rfl ?_
     rw [HST.out]
     exact ⟨_,rfl,M0.out.done HS.out (RefS.mid (M0.out.box.old HS.out H.out)) (((Kept.refl (fun b=>b=w.heap.size∨b=w.heap.size+1) _).setCell (p:=⟨w.heap.size+1,0,none⟩) (.inl (.inr rfl)) _).setCell (p:=⟨w.heap.size+1,1,none⟩) (.inl (.inr rfl)) _)⟩
    ·obtain ⟨k,rfl⟩:∃ k:Nat,n=(k:Int):=⟨n.toNat,by omega⟩
     have hkl:k≤f.data.length:=by omega
     have HST:=Lib.hid (stTruncate_ok HF.out hkl)
     clear HF
     go_wp2_with fail
     refine (rdraw_any pow hp A fs.length c _).mono ?_
     rintro e w3 ⟨rfl,hb3⟩
     have M3:=Lib.hid (M0.out.go HS.out hb3)
     clear x0 x1 x2 x3 x4 x5 x6 x7 q0 q1 q2 q3 q4 q5 n0 n1 n2 n3 hb3 M0
     obtain ⟨⟨x0,x1,x2,x3,x4,x5,x6,x7⟩,⟨q0,q1,q2,q3,q4,q5⟩,n0,n1,n2,n3⟩:=M3.out.cells
     by_cases hp0:pow=0
     ·subst hp0
      have HD:=Lib.hid (doSt_down (st:=⟨0,fs⟩) (fs:=withL File.name ⟨f.name,f.data.take k,min f.safe k⟩ fs) rfl)
      rw [if_pos rfl,show dec 0=0 from rfl]
      go_wp2
      refine bodyPost_ret (v:=.tuple #[.agg #[.int .i64 0,.slice A fs.length c],.int .i64 13]) (by simp [results,Tryz.results100,go_sem,x0,x1,x2,x3,x4,x5,x6,x7]) rfl ?_
      rw [HST.out,HD.out]
      exact ⟨_,rfl,M3.out.done HS.out (RefS.mid (M3.out.box.old HS.out H.out)) (((((Kept.refl (fun b=>b=w.heap.size∨b=w.heap.size+1) w3).setCell (p:=⟨w.heap.size,0,none⟩) (.inl (.inl rfl)) _).setCell (p:=⟨w.heap.size,1,none⟩) (.inl (.inl rfl)) _).setCell (p:=⟨w.heap.size+1,0,none⟩) (.inl (.inr rfl)) _).setCell (p:=⟨w.heap.size+1,1,none⟩) (.inl (.inr rfl)) _)⟩
     ·have HD:=Lib.hid (doSt_do (st:=⟨pow,fs⟩) (fs:=withL File.name ⟨f.name,f.data.take k,min f.safe k⟩ fs) hp0)
      rw [if_neg hp0]
      clear hp0
      have M4:=Lib.hid (M3.out.store HS.out (dec pow) (.slice A fs.length c))
      generalize dec pow=pd at *
      obtain ⟨hcu,hseg⟩:=seg_takeR (M4.out.segW HS.out) k hkl
      have hsl:∀ w',(Instr.slice 24 (.slice Au f.data.length cu) none (some (.int .i64 (k:Int))) none).run Tryz.prog w'=.ok (.slice Au k cu) w':=fun w'=>slice_front Au f.data.length cu k w' hcu
      have HSG:=Lib.hid hseg;clear hseg
      have htl:(f.data.take k).length=k:=by simp;omega
      have HTL:=Lib.hid htl;clear htl
      go_wp2_with fail
      refine (copyBytes_any _ (f.data.take k) _ _ HSG.out (Nat.le_refl _) (by rw [HTL.out];omega)).mono ?_
      rintro e w5 ⟨u,rfl,hu,hb5⟩
      obtain ⟨A5,c5,hf5⟩:=hu.form
      subst hf5
      have M5:=Lib.hid (M4.out.setData HS.out hb5 (by rw [byteCells_length]) hu)
      have M45:=Lib.hid (M4.out.go HS.out hb5)
      clear hu hb5 M4 M3 HSG x0 x1 x2 x3 x4 x5 x6 x7 q0 q1 q2 q3 q4 q5 n0 n1 n2 n3
      obtain ⟨⟨x0,x1,x2,x3,x4,x5,x6,x7⟩,⟨q0,q1,q2,q3,q4,q5⟩,n0,n1,n2,n3⟩:=M45.out.cells
      have hbl:(byteCells (f.data.take k)).length=k:=by rw [byteCells_length,HTL.out]
      rw [hbl] at M5 ⊢
      clear hbl
      by_cases hsf:(k:Int) < (f.safe:Int)
      ·have M6:=Lib.hid (M5.out.setSafe HS.out k)
       have hmin:min f.safe k=k:=by omega
       have HMIN:=Lib.hid hmin;clear hmin
       have hwi:=M6.out.with HS.out (RefS.mid (M6.out.box.old HS.out H.out)) (by omega)
       simp only [HTL.out] at hwi
       have HWI:=Lib.hid hwi;clear hwi
       go_wp2_with fail
       refine HWI.out.mono ?_
       rintro e w6 ⟨A6,n6,c6,rfl,HM6⟩
       clear x0 x1 x2 x3 x4 x5 x6 x7 q0 q1 q2 q3 q4 q5 n0 n1 n2 n3 HWI M6 M5 M45
       obtain ⟨x0,x1,x2,x3,x4,x5,x6,x7⟩:=HM6.out.2.box.cells
       go_wp2
       refine bodyPost_ret (v:=.tuple #[.agg #[.int .i64 pd,.slice A6 n6 c6],.int .i64 0]) (by simp [results,Tryz.results100,go_sem,x0,x1,x2,x3,x4,x5,x6,x7]) rfl ?_
       rw [HST.out,HD.out,HMIN.out]
       exact ⟨_,rfl,HM6.out.2.done HS.out HM6.out.1 (((Kept.refl (fun b=>b=w.heap.size∨b=w.heap.size+1) w6).setCell (p:=⟨w.heap.size+1,0,none⟩) (.inl (.inr rfl)) _).setCell (p:=⟨w.heap.size+1,1,none⟩) (.inl (.inr rfl)) _)⟩
      ·have hmin:min f.safe k=f.safe:=by omega
       have HMIN:=Lib.hid hmin;clear hmin
       have hwi:=M5.out.with HS.out (RefS.mid (M5.out.box.old HS.out H.out)) (by omega)
       simp only [HTL.out] at hwi
       have HWI:=Lib.hid hwi;clear hwi
       go_wp2_with fail
       refine HWI.out.mono ?_
       rintro e w6 ⟨A6,n6,c6,rfl,HM6⟩
       clear x0 x1 x2 x3 x4 x5 x6 x7 q0 q1 q2 q3 q4 q5 n0 n1 n2 n3 HWI M5 M45
       obtain ⟨x0,x1,x2,x3,x4,x5,x6,x7⟩:=HM6.out.2.box.cells
       go_wp2
       refine bodyPost_ret (v:=.tuple #[.agg #[.int .i64 pd,.slice A6 n6 c6],.int .i64 0]) (by simp [results,Tryz.results100,go_sem,x0,x1,x2,x3,x4,x5,x6,x7]) rfl ?_
       rw [HST.out,HD.out,HMIN.out]
       exact ⟨_,rfl,HM6.out.2.done HS.out HM6.out.1 (((Kept.refl (fun b=>b=w.heap.size∨b=w.heap.size+1) w6).setCell (p:=⟨w.heap.size+1,0,none⟩) (.inl (.inr rfl)) _).setCell (p:=⟨w.heap.size+1,1,none⟩) (.inl (.inr rfl)) _)⟩
end Go.Proofs.YtaalbcfpacpgfaaGreat
