/- The reference's Encode. -/
import Derived.Deep.RegionHeld
import Derived.Test.YtaalbcfpacpgfaaGreatZaY3
set_option linter.unusedVariables false
set_option linter.unusedSimpArgs false
namespace Go.Proofs.YtaalbcfpacpgfaaGreat
open Go.RowKit Go.Lib Go.Vfs Go.Par Go.Typ Go.Shelf
set_option maxRecDepth 20000 in
set_option maxHeartbeats 4000000 in
theorem rencode14_any (xs:List Ex) (hok:∀ x∈xs,ExOk x) (v:Value) (w:World) (hX:ExsAt (· < w.heap.size) w v xs):Calls Tryz.prog 76 #[v] w (EncPost xs w):=by
 obtain ⟨P,hP⟩:∃ P,P=EncPost xs w:=⟨_,rfl⟩
 have HPO:=Lib.hid hP
 rw [←hP]
 clear hP
 obtain ⟨A,c,rfl,hc,hm⟩:=hX.form
 have hla:xs.length≤9223372036854775807:=by simp only [maxLen] at hm;omega
 have HRI:=Lib.hid (rright14_any xs hok _ w hX)
 have HX:=Lib.hid hX
 clear hX hc hm hok
 go_enter Tryz.func76,Tryz.ntmps76
 go_wp2_with fail
 refine HRI.out.mono ?_
 rintro e w2 ⟨rfl,hb2⟩
 have HB2:=Lib.hid hb2
 have hz2:=hb2.size
 clear hb2
 by_cases hr:rightX xs=true
 rotate_left
 ·have hr':rightX xs=false:=by simpa using hr
  have HE:Hid (P (.returned (.tuple #[.slice none 0 0,.int .i64 140])) w2):=Lib.hid (by
   rw [HPO.out]
   unfold EncPost
   refine ⟨.slice none 0 0,by rw [hr'];rfl,HB2.out,fun h=>?_,fun _=>rfl⟩
   rw [hr'] at h;cases h)
  rw [hr']
  clear hr hr'
  go_wp2
  exact HE.out
 have hl:=rightX_len hr
 have HRT:=Lib.hid hr
 rw [hr]
 clear hr
 obtain ⟨W3,hW3⟩:∃ W3,W3=w2.alloc (.cells #[.int .u8 ((xs.length:Int) / 256),.int .u8 ((xs.length:Int) % 256)] 5):=⟨_,rfl⟩
 have hb3:Below w2.heap.size w2 W3:=by rw [hW3];exact (Below.refl _ _).alloc (Nat.le_refl _) _
 have hown3:Par.Own W3 w.heap.size 5 (.slice (some ⟨w2.heap.size,0,none⟩) 2 2) (byteCells [(xs.length / 256).toUInt8,xs.length.toUInt8]):=by
  rw [hW3]
  have h:=Par.Own.new w2 w.heap.size 5 #[.int .u8 ((xs.length:Int) / 256),.int .u8 ((xs.length:Int) % 256)] (byteCells [(xs.length / 256).toUInt8,xs.length.toUInt8]) (by
   rw [show byteCells [(xs.length / 256).toUInt8,xs.length.toUInt8]=byteCells [(xs.length / 256).toUInt8] ++ byteCells [xs.length.toUInt8] from rfl,←cell_u8 (xs.length / 256) ((xs.length:Int) / 256) (by omega),←cell_u8 xs.length ((xs.length:Int) % 256) (by omega)]
   rfl) hz2 (by simp [byteCells,maxLen])
  simpa [byteCells] using h
 have HWS3:Hid (WS w.heap.size W3 (.slice (some ⟨w2.heap.size,0,none⟩) 2 2) [(xs.length / 256).toUInt8,xs.length.toUInt8] (.slice (some ⟨w2.heap.size,0,none⟩) 2 2) W3):=Lib.hid ⟨hown3,Gr.refl _ _⟩
 have HB3:Hid (Below w.heap.size w W3):=Lib.hid (HB2.out.trans (hb3.mono hz2))
 have hzz:w.heap.size≤w2.heap.size∧w2.heap.size < W3.heap.size:=⟨hz2,by rw [hW3];simp⟩
 clear hown3 hb3
 go_wp2
 rw [←hW3]
 clear hW3
 go_loopw [4,5] (fun sv iv W=>∃ (k:Nat) (cur:List UInt8),k≤xs.length∧iv=.int .i64 k∧Hid (WS w.heap.size W3 (.slice (some ⟨w2.heap.size,0,none⟩) 2 2) cur sv W)∧Hid (cur ++ exsB (xs.drop k)=encX xs)∧cur.length≤2+100000 * k) (fun _ iv _=>xs.length - (RowKit.intOf iv).toNat)
 case atStart=>exact ⟨0,_,by omega,rfl,HWS3,Lib.hid (by rw [List.drop_zero];rfl),by simp⟩
 case round =>
  obtain ⟨k,cur,hk,rfl,HWS,HEQ,hcl⟩:=hrel
  have hbb:Below w.heap.size W3 wr:=HWS.out.gr.below (by omega) fun g e=>by
   have e:w2.heap.size=g:=by simpa [Value.ownBlock] using e
   omega
  have HBW:Hid (Below w.heap.size w wr):=Lib.hid (HB3.out.trans hbb)
  have hzr:=HBW.out.size
  obtain ⟨As,cs,es⟩:=HWS.out.form
  subst es
  clear hbb
  by_cases hlt:k < xs.length
  ·obtain ⟨b,off,A',c',rfl,hb,hns,ht,x0,x1,x2,x3,x4⟩:=(HX.out.keep (S':=(· < w.heap.size)) fun g hg=>⟨hg,HBW.out.block g hg⟩).arg hlt
   obtain ⟨hn1,hn2,hn3,hn4⟩:=rightX_each HRT.out hlt
   have heq:=HEQ.out
   rw [exsB_step hlt] at heq
   obtain ⟨hpp,hfa⟩:=rightT_iff.1 (closedT_right hn3)
   have hwl:=wrT_len xs[k].ty hn4
   have h3l:xs[k].name.data.toList.length=xs[k].name.size:=by rw [Array.length_toList];rfl
   have HNX:Hid (((cur ++ ([xs[k].name.size.toUInt8] ++ xs[k].name.data.toList)) ++ wrT xs[k].ty) ++ exsB (xs.drop (k+1))=encX xs):=Lib.hid (by
    rw [←heq];unfold exB;simp only [List.append_assoc])
   have hnl3:((cur ++ ([xs[k].name.size.toUInt8] ++ xs[k].name.data.toList)) ++ wrT xs[k].ty).length≤2+100000 * (k+1):=by
    simp only [List.length_append,List.length_singleton];omega
   have hbB:b < w.heap.size:=hb
   have HBKP:Hid (∀ W v',Gr wr W (.slice As cur.length cs) v'→Below w.heap.size wr W):=Lib.hid fun W v' h=>h.below hzr fun g e=>(HWS.out.own.lt g e).1
   have HNM:Hid (∀ W,Below wr.heap.size wr W→Calls Tryz.prog 121 #[.slice As cur.length cs,.string xs[k].name] W fun e w'=>∃ v',e=.returned v'∧Par.Own w' w.heap.size 5 v' (byteCells (cur ++ ([xs[k].name.size.toUInt8] ++ xs[k].name.data.toList)))∧Gr wr w' (.slice As cur.length cs) v'):=Lib.hid fun W hW=>by
    refine (r14name_any w.heap.size xs[k].name cur (.slice As cur.length cs) W (Nat.le_trans hzr hW.size) (HWS.out.own.below hW) hn1 (by omega)).mono ?_
    rintro e w' ⟨v',h1,h2,h3⟩
    exact ⟨v',h1,h2,(Gr.of_below hW _).trans h3⟩
   have HTY:Hid (∀ W v',Gr wr W (.slice As cur.length cs) v'→Par.Own W w.heap.size 5 v' (byteCells (cur ++ ([xs[k].name.size.toUInt8] ++ xs[k].name.data.toList)))→Calls Tryz.prog 120 #[v',.agg #[.int .i64 xs[k].ty.kind,.int .i64 xs[k].ty.num,.string xs[k].ty.name,.slice A' xs[k].ty.args.length c']] W fun e w' =>
     ∃ v2,e=.returned v2∧Par.Own w' w.heap.size 5 v2 (byteCells ((cur ++ ([xs[k].name.size.toUInt8] ++ xs[k].name.data.toList)) ++ wrT xs[k].ty))∧Gr wr w' (.slice As cur.length cs) v2):=Lib.hid fun W v' hg ho=>by
    have hbl:=HBKP.out W v' hg
    refine (r14typ_any w.heap.size xs[k].ty _ v' _ W (Nat.le_trans hzr hbl.size) (ht.keep fun g (hgl:g < w.heap.size)=>⟨hgl,hbl.block g hgl⟩) ho hfa hn4 (by simp only [List.length_append,List.length_singleton];omega)).mono ?_
    rintro e w' ⟨v2,h1,h2,h3⟩
    exact ⟨v2,h1,h2,hg.trans h3⟩
   have HSK:Hid (∀ W,Below w.heap.size wr W→W.cell? ⟨b,off+k * 5,none⟩=some (.string xs[k].name)∧W.cell? ⟨b,off+k * 5+1,none⟩=some (.int .i64 xs[k].ty.kind)∧W.cell? ⟨b,off+k * 5+2,none⟩=some (.int .i64 xs[k].ty.num)∧W.cell? ⟨b,off+k * 5+3,none⟩=some (.string xs[k].ty.name)∧W.cell? ⟨b,off+k * 5+4,none⟩=some (.slice A' xs[k].ty.args.length c')) :=
    Lib.hid fun W h=>⟨(h.cell (p:=⟨_,_,none⟩) hbB).trans x0,(h.cell (p:=⟨_,_,none⟩) hbB).trans x1,(h.cell (p:=⟨_,_,none⟩) hbB).trans x2,(h.cell (p:=⟨_,_,none⟩) hbB).trans x3,(h.cell (p:=⟨_,_,none⟩) hbB).trans x4⟩
   have HBD:Hid (Below wr.heap.size wr wr.drew):=Lib.hid (Below.refl wr.heap.size _).drew
   have HBD2:Hid (Below w.heap.size wr wr.drew):=Lib.hid (HBD.out.mono hzr)
   clear hn1 hn2 hn3 hn4 heq hpp hfa hwl ht hns h3l
   generalize cur ++ ([xs[k].name.size.toUInt8] ++ xs[k].name.data.toList)=cur5 at *
   generalize xs[k]=X at *
   generalize cur5 ++ wrT X.ty=cur7 at *
   clear x0 x1 x2 x3 x4
   go_wp2_with fail
   go_region_held (fun W:World=>W.cell? ⟨b,off+k * 5,none⟩=some (.string X.name)∧W.cell? ⟨b,off+k * 5+1,none⟩=some (.int .i64 X.ty.kind)∧W.cell? ⟨b,off+k * 5+2,none⟩=some (.int .i64 X.ty.num)∧W.cell? ⟨b,off+k * 5+3,none⟩=some (.string X.ty.name)∧W.cell? ⟨b,off+k * 5+4,none⟩=some (.slice A' X.ty.args.length c'))
    (first | exact HSK.out _ HBD2.out | exact HSK.out _ (HBKP.out _ _ hg6) | exact HSK.out _ (HBKP.out _ _ hg5)) (first
     | (go_at_call 120;refine (HTY.out _ _ hg5 hO5).mono ?_;rintro e w6 ⟨v6,rfl,hO6,hg6⟩)
     | (go_at_call 121;refine (HNM.out _ HBD.out).mono ?_;rintro e w5 ⟨v5,rfl,hO5,hg5⟩))
   have HWS7:Hid (WS w.heap.size W3 (.slice (some ⟨w2.heap.size,0,none⟩) 2 2) cur7 v6 w6):=Lib.hid ⟨hO6,HWS.out.gr.trans hg6⟩
   clear hO6 hg6 hO5 hg5
   go_wp2
   go_roundw
   case rel=>exact ⟨k+1,cur7,by omega,by go_num,HWS7,HNX,hnl3⟩
   case measure=>simp [RowKit.intOf];omega
  ·have hkl:k=xs.length:=by omega
   have heq:=HEQ.out
   rw [hkl,List.drop_length,exsB,List.append_nil] at heq
   have HE:Hid (P (.returned (.tuple #[.slice As cur.length cs,.int .i64 0])) wr):=Lib.hid (by
    rw [HPO.out]
    unfold EncPost
    refine ⟨.slice As cur.length cs,by rw [HRT.out];rfl,HBW.out,fun _=>?_,fun h=>?_⟩
    ·rw [←heq];exact HWS.out.own
    ·rw [HRT.out] at h;cases h)
   clear heq
   go_wp2
   exact HE.out
end Go.Proofs.YtaalbcfpacpgfaaGreat
