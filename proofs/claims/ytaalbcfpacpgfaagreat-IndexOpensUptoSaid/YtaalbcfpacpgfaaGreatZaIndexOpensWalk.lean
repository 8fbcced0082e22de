/- The walk of IndexOpens. -/
import Derived.Deep.CutBlock
import Derived.Test.YtaalbcfpacpgfaaGreatZaR5
set_option linter.unusedVariables false
set_option linter.unusedSimpArgs false
namespace Go.Proofs.YtaalbcfpacpgfaaGreat
open Go.RowKit Go.Lib Go.Vfs Go.Par Go.Typ Go.Shelf Go.Ix
set_option maxRecDepth 100000 in
set_option maxHeartbeats 8000000 in
theorem indexOpens_walk (va:Value) (rows:List (List UInt8)) (hsz:sizeX rows≤1048576) (W:World) (hA:RowsAt (· < W.heap.size) W va rows) :
  Calls Tryz.prog 3 #[va] W fun e w'=>e=.returned (.bool true)∧Below W.heap.size W w':=by
 obtain ⟨Aa,ca,rfl,hca,hcm,hR⟩:=hA.open_
 have HR:=Lib.hid hR
 have HA:=Lib.hid hA
 have HSZ:=Lib.hid hsz
 have hln:rows.length≤1048576:=by rw [sizeX_eq] at hsz;omega
 clear hR hA hcm hsz
 go_enter Tryz.func3,Tryz.ntmps3
 go_wp2_with fail
 refine (ixalive_any W).mono ?_
 rintro e w1 ⟨rfl,hb1⟩
 have HB1:=Lib.hid hb1
 clear hb1
 go_wp2
 go_loopw [3,4] (fun nv iv W'=>∃ k T:Nat,k≤rows.length∧nv=.int .i64 T∧iv=.int .i64 k∧Hid (T=sizeX (rows.take k))∧w1=W') (fun _ iv _=>rows.length - (RowKit.intOf iv).toNat)
 case atStart=>exact ⟨0,0,by omega,rfl,rfl,Lib.hid rfl,rfl⟩
 case round =>
  obtain ⟨k,T,hk,rfl,rfl,HT,rfl⟩:=hrel
  by_cases hlt:k < rows.length
  ·obtain ⟨b,off,Au,cu,rfl,hb,hck,-⟩:=HR.out w1 HB1.out k hlt
   have HSX:=Lib.hid (sizeX_succ rows k hlt)
   have hT:T≤1048576∧(rows.getD k []).length≤1048576:=by
    have h1:=HSX.out;have h2:=sizeX_le rows (k+1);have h3:=HSZ.out;have h4:=HT.out
    omega
   obtain ⟨hT,hL⟩:=hT
   generalize rows.getD k []=L at *
   clear HR HA
   go_wp2
   go_roundw
   case rel=>exact ⟨k+1,T+(1+L.length),by omega,by go_num,by go_num,Lib.hid (by rw [HSX.out,HT.out]),trivial⟩
   case measure=>simp [RowKit.intOf];omega
  ·have hkl:k=rows.length:=by omega
   have HTE:Hid (T=sizeX rows):=Lib.hid (by rw [HT.out,hkl,List.take_length])
   clear hkl HT
   by_cases hbig:(10000:Int) < (T:Int)
   ·go_wp2
    go_ret
    exact ⟨rfl,HB1.out⟩
   have HS10:Hid (sizeX rows≤10000):=Lib.hid (by rw [←HTE.out];omega)
   have hln10:rows.length≤10000:=by have:=HS10.out;rw [sizeX_eq] at this;omega
   have HP16:Hid (∀ p∈rows,p.length≤10000):=Lib.hid fun p hp=>Nat.le_trans (sizeX_mem hp) HS10.out
   clear hln HTE HSZ
   go_wp2_with fail
   refine (new_fs (-1) w1).mono ?_
   rintro e w2 ⟨p,F,rfl,hfs,hF,hb2⟩
   have hz1:=HB1.out.size
   have HOP:=Lib.hid (jopen_any w2 p ⟨-1,[]⟩ F hfs Calm.nil (by omega) (by omega) (by decide))
   have HB2:Hid (Below W.heap.size W w2):=Lib.hid (HB1.out.trans (hb2.mono hz1))
   have HF:Hid (∀ k,F k→W.heap.size≤k):=Lib.hid fun k hk=>Nat.le_trans hz1 (hF k hk).1
   clear hfs hF hb2 hz1 HB1
   go_wp2_with fail
   refine HOP.out.mono ?_
   intro e w3 hop
   rw [open_new] at hop
   obtain ⟨pj,F3,G3,rfl,hj3⟩:=hop.held HB2.out (Nat.le_refl _) HF.out
   obtain ⟨W4,hW4⟩:∃ W4,W4=w3.alloc (.cells #[.int .i64 (-1),.slice none 0 0] 33):=⟨_,rfl⟩
   have hb4:Below w3.heap.size w3 W4:=by rw [hW4];exact (Below.refl _ _).alloc (Nat.le_refl _) _
   have HPJ0:Hid (PJ W W4 pj p w3.heap.size (.cells #[.int .i64 (-1),.slice none 0 0] 33 (0,0)) []):=Lib.hid ⟨F3,G3,hj3.go (Nat.le_refl _) hb4,fun h=>Nat.lt_irrefl _ (hj3.lt _ (.inl h)),fun h=>Nat.lt_irrefl _ (hj3.lt _ (.inr h)),by rw [hW4];exact heap_alloc_new _ _⟩
   have HW3:Hid (W.heap.size≤w3.heap.size):=Lib.hid hj3.below.size
   clear hop hj3 hb4 HOP HB2 HF
   go_wp2
   rw [←hW4]
   clear hW4
   go_loopw [9] (fun iv W'=>∃ k:Nat,k≤rows.length∧iv=.int .i64 k∧Hid (PJ W W' pj p w3.heap.size (.cells #[.int .i64 (-1),.slice none 0 0] 33 (0,0)) (rows.take k))) (fun iv _=>rows.length - (RowKit.intOf iv).toNat)
   case atStart=>exact ⟨0,by omega,rfl,HPJ0⟩
   case round =>
    obtain ⟨j,hj,rfl,HPJ⟩:=hrel
    clear HPJ0
    by_cases hlj:j < rows.length
    ·obtain ⟨b,off,Au,cu,rfl,hb,hck,hsk⟩:=HR.out wr HPJ.out.below j hlj
     have hz:=HPJ.out.below.size
     have htk:rows.take (j+1)=rows.take j ++ [rows.getD j []]:=by
      rw [List.take_succ_eq_append_getElem hlj,List.getD_eq_getElem?_getD,List.getElem?_eq_getElem hlj];rfl
     have hsx:sizeX (rows.take j ++ [rows.getD j []])≤20000:=by
      rw [←htk]
      have h1:=sizeX_le rows (j+1);have h2:=HS10.out
      omega
     have hLl:(rows.getD j []).length≤1000000:=by
      rw [List.getD_eq_getElem?_getD,List.getElem?_eq_getElem hlj]
      have:=HP16.out _ (List.getElem_mem hlj)
      simp only [Option.getD_some];omega
     have HTK:=Lib.hid htk;have HSX:=Lib.hid hsx
     generalize rows.getD j []=L at *
     have HCB:=Lib.hid (copyBytes_any (.slice Au L.length cu) L W.heap.size wr hsk hz hLl)
     generalize L.length=Ln at *
     clear hsk htk hsx hLl
     go_wp2_with fail
     refine HCB.out.mono ?_
     rintro e w5 ⟨u5,rfl,hu5,hb5⟩
     have HAP:=Lib.hid (HPJ.out.append hb5 hu5 HSX.out)
     clear hu5 hb5 HCB
     go_wp2_with fail
     refine HAP.out.mono ?_
     rintro e w6 ⟨rfl,HN⟩
     have HN6:Hid (PJ W w6 pj p w3.heap.size (.cells #[.int .i64 (-1),.slice none 0 0] 33 (0,0)) (rows.take (j+1))):=Lib.hid (by rw [HTK.out];exact HN.out)
     clear HN HAP
     go_wp2
     go_roundw
     case rel=>exact ⟨j+1,by omega,by go_num,HN6⟩
     case measure=>simp [RowKit.intOf];omega
    ·have hjl:j=rows.length:=by omega
     have HPE:Hid (PJ W wr pj p w3.heap.size (.cells #[.int .i64 (-1),.slice none 0 0] 33 (0,0)) rows):=Lib.hid (by have:=HPJ.out;rw [hjl,List.take_length] at this;exact this)
     clear hjl HPJ
     have hz3:W.heap.size≤w3.heap.size:=HW3.out
     obtain ⟨F5,G5,hj5,hf5,hg5,hbx5⟩:=HPE.out
     have HRD:=Lib.hid (read_any wr p ⟨-1,fsOf rows⟩ F5 hj5.jf.fs ⟨#[108,111,103]⟩ (by decide) (fun f hf=>by
      have h1:=(fsOf_calm rows).data f hf
      rw [encR_len] at h1
      have h2:=HS10.out
      rw [sizeX_eq] at h2
      omega))
     change Hid (Calls Tryz.prog 13 _ wr (ReadPost wr (stFind ⟨-1,fsOf rows⟩ nLog))) at HRD
     rw [fsOf_find] at HRD
     have HL0:Hid (rows.length=0→rows=[]):=Lib.hid fun h=>List.eq_nil_of_length_eq_zero h
     have HL1:Hid (¬ rows.length=0→rows≠[]):=Lib.hid fun h e=>h (by rw [e];rfl)
     clear hj5 hf5 hg5 hbx5
     go_wp2_with fail
     refine HRD.out.mono ?_
     intro e w5 hrd
     have hu:∃ (Ab:Option Addr) (cb:Nat) (er:Int),e=.returned (.tuple #[.slice Ab (encR 0 rows).length cb,.int .i64 er])∧Seg w5 w5.heap.size (.slice Ab (encR 0 rows).length cb) (byteCells (encR 0 rows))∧Below wr.heap.size wr w5:=by
      obtain ⟨hb,hm⟩:=hrd
      by_cases hr0:rows=[]
      ·rw [if_pos hr0] at hm
       simp only at hm
       subst hr0
       exact ⟨none,0,11,hm,Seg.nil _ _,hb⟩
      ·rw [if_neg hr0] at hm
       simp only at hm
       obtain ⟨u,he,hu⟩:=hm
       obtain ⟨A,c,rfl⟩:=Own.formB hu
       exact ⟨A,c,0,he,Own.seg hu,hb⟩
     obtain ⟨Ab,cb,er,rfl,hsb,hb5⟩:=hu
     have HSB:=Lib.hid hsb
     have HB5:=Lib.hid hb5
     have hel:(encR 0 rows).length≤1000000:=by
      rw [encR_len]
      have h2:=HS10.out
      rw [sizeX_eq] at h2
      omega
     obtain ⟨D,hD⟩:∃ D,D=encR 0 rows:=⟨_,rfl⟩
     rw [←hD] at HSB hel ⊢
     have HD:=Lib.hid hD
     clear hrd hsb hb5 HRD hD
     go_upto_if 69 with fail
     go_cut [] (fun Wc=>∃ A c,Hid (SX W Wc pj p w3.heap.size A c rows))
     case first =>
      by_cases hr0:rows.length=0
      ·have hlz:¬ (0:Int) < (rows.length:Int):=by omega
       have HSX:Hid (SX W w5 pj p w3.heap.size none 0 rows):=Lib.hid (by
        have h:=HPE.out.go HB5.out
        have e:=HL0.out hr0
        rw [e] at h ⊢
        exact SX.start h)
       clear hr0
       go_wp2
       go_meet
       exact ⟨_,_,HSX⟩
      ·have hlz:(0:Int) < (rows.length:Int):=by omega
       have hne:=HL1.out hr0
       obtain ⟨W6,hW6⟩:∃ W6,W6=w5.alloc (.cells #[.slice Ab D.length cb] 24):=⟨_,rfl⟩
       have hb6:Below w5.heap.size w5 W6:=by rw [hW6];exact (Below.refl _ _).alloc (Nat.le_refl _) _
       have hb56:Below wr.heap.size wr W6:=HB5.out.trans (hb6.mono HB5.out.size)
       have HRA:=Lib.hid (rappend_any ⟨-1,[]⟩ (by decide) (.slice none 0 0) (fun _=>False) W6 (fun _ h=>h.elim) (RefS.nil _ _) nLog (by decide) (by simp) (by simp) (.slice (some ⟨w5.heap.size,0,none⟩) 1 1) [D] (by rw [hW6];exact rows_oneX HSB.out) (by simpa using hel))
       rw [HD.out,fsOf_ref hne] at HRA
       obtain ⟨F5,G5,hj5,hf5,hg5,hbx5⟩:=HPE.out.go HB5.out
       have y01:w5.cell? ⟨w3.heap.size,0,none⟩=some (.int .i64 (-1))∧w5.cell? ⟨w3.heap.size,1,none⟩=some (.slice none 0 0):=by simp [World.cell?,hbx5]
       obtain ⟨y0,y1⟩:=y01
       have HB56:=Lib.hid hb56
       have HHP:=Lib.hid (HPE.out.go hb56)
       clear hj5 hf5 hg5 hbx5 hb6 hb56 hne hr0
       go_wp2_with fail
       rw [←hW6]
       clear hW6 y0 y1
       refine HRA.out.mono ?_
       rintro e w7 ⟨v7,rfl,hr7,hb7⟩
       obtain ⟨A7,c7,rfl,-,-⟩:=hr7.form
       have HSX:=Lib.hid (SX.made HPE.out hz3 HB56.out hb7 hr7)
       obtain ⟨F5,G5,hj5,hf5,hg5,hbx5⟩:=HHP.out.go hb7
       have y01:w7.cell? ⟨w3.heap.size,0,none⟩=some (.int .i64 (-1))∧w7.cell? ⟨w3.heap.size,1,none⟩=some (.slice none 0 0):=by simp [World.cell?,hbx5]
       have q01:w7.frozen? ⟨w3.heap.size,0,none⟩=false∧w7.frozen? ⟨w3.heap.size,1,none⟩=false:=by simp [World.frozen?,hbx5]
       obtain ⟨y0,y1⟩:=y01
       obtain ⟨q0,q1⟩:=q01
       clear hj5 hf5 hg5 hbx5 hr7 hb7 HRA HHP
       dsimp only
       go_wp2
       go_meet
       exact ⟨_,_,HSX⟩
     case rest =>
      obtain ⟨A,c,HSX⟩:=hcut
      obtain ⟨wm,rfl⟩:∃ wm:World,wm=wc:=⟨_,rfl⟩
      clear HPE HSB HB5 hel HD HL0 HL1
      obtain ⟨F5,G5,hj5,hf5,hg5,hbx5,hrf5⟩:=HSX.out
      have ho:openSt ⟨-1,fsOf rows⟩=(⟨-1,fsOf rows⟩,.ok (0,[],rows)):=fsOf_open fun q hq=>by have:=HP16.out q hq;omega
      have hfd:∀ f∈fsOf rows,f.data.length≤140000:=fun f hf=>by
       have h1:=(fsOf_calm rows).data f hf
       rw [encR_len] at h1
       have h2:=HS10.out
       rw [sizeX_eq] at h2
       omega
      have hfit:∀ x:Nat × List (List UInt8) × List (List UInt8),(openSt ⟨-1,fsOf rows⟩).2=.ok x→x.2.1.length+x.2.2.length≤100000∧∀ l∈x.2.1 ++ x.2.2,l.length≤1000000:=fun x hx=>by
       rw [ho] at hx
       injection hx with hx
       subst hx
       exact ⟨by simp only [List.length_nil];omega,fun l hl=>by have:=HP16.out l (by simpa using hl);omega⟩
      have HIO:=Lib.hid (ixopen_any wm p ⟨-1,fsOf rows⟩ F5 hj5.jf.fs ((fsOf_calm rows).mono (k':=1) (d':=140000) (Nat.le_refl _) (by rw [encR_len];have h2:=HS10.out;rw [sizeX_eq] at h2;omega)) (by omega) (by omega) (show (-1:Int)≤9223372036854775807 by decide) hfit)
      rw [ho] at HIO
      have HO:=Lib.hid ho;have HFD:=Lib.hid hfd;have HFIT:=Lib.hid hfit
      have HBM:=Lib.hid hj5.below
      have HFG:=Lib.hid (And.intro hf5 hj5.lt)
      have HBX:=Lib.hid hbx5;have HRF:=Lib.hid hrf5
      have HFN:=Lib.hid hj5.fnew
      clear hj5 hf5 hg5 hbx5 hrf5 ho hfd hfit HSX
      go_wp2_with fail
      refine HIO.out.mono ?_
      rintro e w8 ⟨F8,hfs8,hk8,hg8,hres8⟩
      have hz8:=hk8.size
      have hbl:=lt_blk HBX.out
      have hbx8:=(hk8.block _ hbl HFG.out.1).trans HBX.out
      obtain ⟨y0,y1⟩:=(show w8.cell? ⟨w3.heap.size,0,none⟩=some (.int .i64 (-1))∧w8.cell? ⟨w3.heap.size,1,none⟩=some (.slice A (fsOf rows).length c) by simp [World.cell?,hbx8])
      have hrf8:RefS (fun k=>k < wm.heap.size∧¬ F5 k) w8 (.slice A (fsOf rows).length c) (fsOf rows):=HRF.out.keep fun b hb=>⟨⟨hb.1,hb.2.1⟩,hk8.block b hb.1 hb.2.1⟩
      have HRO:=Lib.hid (rxopen_any ⟨-1,fsOf rows⟩ (show (-1:Int)≤9223372036854775807 by decide) A c (fun k=>k < wm.heap.size∧¬ F5 k) w8 (fun b hb=>by have:=hb.1;omega) hrf8 (by have:=(fsOf_calm rows).files;simp only;omega) (fun f hf=>by have:=HFD.out f hf;omega) HFIT.out)
      rw [HO.out] at HRO
      have HB8:Hid (Below W.heap.size W w8):=Lib.hid (HBM.out.trans (hk8.below HBM.out.size (fun k hk=>HFN.out k hk)))
      have HRES8:=Lib.hid hres8
      obtain ⟨fl,hfl⟩:∃ fl,fl=(fsOf rows).length:=⟨_,rfl⟩
      rw [←hfl] at y1
      change Hid (Calls Tryz.prog 16 #[.agg #[.int .i64 (-1),.slice A (fsOf rows).length c]] w8 _) at HRO
      rw [←hfl] at HRO
      unfold IxRes at hres8
      simp only [List.nil_append] at hres8
      clear hfs8 hk8 hg8 hbx8 hrf8 hfl HIO HRF HBX HFD HFIT HO HRES8
      cases hrep:replay [] rows with
      | none =>
       rw [hrep] at hres8
       simp only at hres8
       subst hres8
       go_wp2_with fail
       refine HRO.out.mono ?_
       rintro e w9 ⟨A9,n9,c9,gen9,Ab9,nb9,cb9,Ar9,nr9,cr9,Al9,nl9,cl9,er9,rfl,-,hb9,hres9⟩
       have HB9:Hid (Below W.heap.size W w9):=Lib.hid (HB8.out.trans (hb9.mono HB8.out.size))
       unfold RXRes at hres9
       simp only [List.nil_append,hrep] at hres9
       subst hres9
       clear hb9 HRO
       dsimp only
       go_wp2
       go_ret
       exact ⟨rfl,HB9.out.alloc HB9.out.size _⟩
      | some es =>
       rw [hrep] at hres8
       simp only at hres8
       obtain ⟨px,H8,S8,rfl,hxf8,-⟩:=hres8
       have HXF8:=Lib.hid hxf8
       have HGOOD:Hid (Ix.Good es):=Lib.hid (Good.nil.replay hrep)
       have hesl:es.length≤100000:=by
        have h1:=replay_le _ _ _ hrep
        simp at h1;omega
       clear hxf8
       go_wp2_with fail
       refine HRO.out.mono ?_
       rintro e w9 ⟨A9,n9,c9,gen9,Ab9,nb9,cb9,Ar9,nr9,cr9,Al9,nl9,cl9,er9,rfl,-,hb9,hres9⟩
       unfold RXRes at hres9
       simp only [List.nil_append,hrep] at hres9
       obtain ⟨rfl,-,-,-,rfl,hes9⟩:=hres9
       obtain ⟨W10,hW10⟩:∃ W10,W10=w9.alloc (.cells #[.int .i64 (-1),.slice A9 n9 c9,.int .i64 gen9,.slice Ab9 nb9 cb9,.slice Ar9 nr9 cr9,.slice Al9 es.length cl9] 47):=⟨_,rfl⟩
       have hb10:Below w9.heap.size w9 W10:=by rw [hW10];exact (Below.refl _ _).alloc (Nat.le_refl _) _
       have hbx10:W10.heap[w9.heap.size]? = some (.cells #[.int .i64 (-1),.slice A9 n9 c9,.int .i64 gen9,.slice Ab9 nb9 cb9,.slice Ar9 nr9 cr9,.slice Al9 es.length cl9] 47 (0,0)):=by rw [hW10];exact heap_alloc_new _ _
       have hb810:Below w8.heap.size w8 W10:=hb9.trans (hb10.mono hb9.size)
       have hd0:=Below.refl W10.heap.size W10
       have HD:Hid (Below W10.heap.size W10 W10.drew):=Lib.hid ⟨hd0.os,hd0.tape,hd0.output,hd0.size,hd0.block⟩
       have hxf10:=(HXF8.out.below hb810).below HD.out
       obtain ⟨pj10,mb10,xs10,G10,-,hix10,hmap10,-,hS10,-⟩:=hxf10
       have HENT:=Lib.hid (entries_any W10.drew px pj10 mb10 xs10 S8 hix10 (fun k hk=>(hS10 k hk).1) (by rw [hmap10];exact HGOOD.out) (by rw [←hmap10] at hesl;simpa using hesl))
       rw [hmap10] at HENT
       have hes10:EntsAt (· < W10.heap.size) W10 (.slice Al9 es.length cl9) es:=hes9.keep fun g hg=>⟨by have:=hb10.size;show g < W10.heap.size;omega,hb10.block g hg.2⟩
       have HSE:Hid (∀ (v:Value) (W':World),Below W10.heap.size W10 W'→EntsAt (· < W'.heap.size) W' v es→Calls Tryz.prog 17 #[v,.slice Al9 es.length cl9] W' fun e w'=>e=.returned (.bool true)∧Below W'.heap.size W' w'):=Lib.hid fun v W' h hv =>
        (sameEntries_any es es v _ W' hv (hes10.blw h)).mono fun e w' ⟨he,hb⟩=>⟨by rw [he,sameN_true rfl],hb⟩
       have hblx:=lt_blk hbx10
       have HSK:Hid (∀ W':World,Below W10.heap.size W10 W'→W'.cell? ⟨w9.heap.size,5,none⟩=some (.slice Al9 es.length cl9)):=Lib.hid fun W' h=>by
        have hb:=(h.block _ hblx).trans hbx10
        simp [World.cell?,hb]
       have HB10:Hid (Below W.heap.size W W10):=Lib.hid (HB8.out.trans (hb810.mono HB8.out.size))
       generalize es.length=el at *
       clear hes9 hb9 hb10 hbx10 hb810 hd0 hix10 hmap10 hS10 hes10 HRO HXF8 hesl
       dsimp only
       go_wp2_with fail
       rw [←hW10]
       clear hW10
       go_region_held (fun W':World=>W'.cell? ⟨w9.heap.size,5,none⟩=some (.slice Al9 el cl9))
        (first | exact HSK.out _ HD.out | exact HSK.out _ (by assumption)) (first
        | (go_at_call 17;refine (HSE.out _ w11 HB11 hent11).mono ?_;rintro e w12 ⟨rfl,hb12⟩;have HB12:=HB11.trans (hb12.mono HB11.size))
        | (go_at_call 18;refine HENT.out.mono ?_;rintro e w11 ⟨v11,rfl,he11,hb11⟩;have hent11:=he11.keep (S':=(· < w11.heap.size)) (fun g hg=>⟨hg.2,rfl⟩);have HB11:=HD.out.trans (hb11.mono HD.out.size)))
       go_wp2
       go_ret
       exact ⟨rfl,HB10.out.trans (HB12.mono HB10.out.size)⟩
end Go.Proofs.YtaalbcfpacpgfaaGreat
