/- The reference's bytes of a name and of a type. -/
import Derived.Deep.CutBlock
import Derived.Deep.DeepCutAuto
import Derived.Test.YtaalbcfpacpgfaaGreatZaY2
import Derived.Test.YtaalbcfpacpgfaaGreatZaXA
set_option linter.unusedVariables false
set_option linter.unusedSimpArgs false
namespace Go.Proofs.YtaalbcfpacpgfaaGreat
open Go.RowKit Go.Lib Go.Vfs Go.Par Go.Typ Go.Shelf
theorem bytes_ofS (s:ByteArray) (w:World) (hs:s.size≤2147483648):∃ cap w1,(convert 9 24 (.string s)).run Tryz.prog w=.ok (.slice (some ⟨w.heap.size,0,none⟩) s.size cap) w1∧Seg w1 (w.heap.size+1) (.slice (some ⟨w.heap.size,0,none⟩) s.size cap) (byteCells s.data.toList)∧Below w.heap.size w w1∧w1.heap.size=w.heap.size+1:=by
 have hge:=grownCap_ge w s.size 0 5
 have hle:=grownCap_le_maxLen w s.size 0 5 (by unfold maxLen;omega)
 have hl:s.data.toList.length=s.size:=by rw [Array.length_toList];rfl
 refine ⟨_,_,run_bytes_of_string (P:=Tryz.prog) w 9 24 5 s Tryz.underlying9 Tryz.underlying24 Tryz.underlying5,?_,(Below.refl _ w).drew.alloc (by simp) _,by simp⟩
 refine ⟨_,_,by rw [byteCells_length,hl],by rw [byteCells_length,hl];exact hge,hle,fun h0=>⟨w.heap.size,0,rfl,by omega,fun i hi=>?_⟩⟩
 rw [byteCells_length,hl] at hi
 have hh:(w.drew.alloc (Obj.cells (bytesRow s (grownCap w s.size 0 5)) 5 ((bytesRow s (grownCap w s.size 0 5)).size,(bytesRow s (grownCap w s.size 0 5)).size+1))).heap[w.heap.size]? = some (Obj.cells (bytesRow s (grownCap w s.size 0 5)) 5 ((bytesRow s (grownCap w s.size 0 5)).size,(bytesRow s (grownCap w s.size 0 5)).size+1)):=heap_alloc_new w.drew _
 have h1:(bytesRow s (grownCap w s.size 0 5))[i]? = (byteCells s.data.toList)[i]?:=by
  unfold bytesRow
  rw [Array.getElem?_append_left (by rw [Array.size_map];exact hi)]
  have hi':i < s.data.size:=hi
  simp [byteCells,hi']
 rw [Nat.zero_add,←h1]
 simp only [World.cell?,hh]
 rfl
set_option maxRecDepth 20000 in
set_option maxHeartbeats 2000000 in
theorem r14name_any (B:Nat) (s:ByteArray) (bs:List UInt8) (bv:Value) (w:World) (hB:B≤w.heap.size) (hO:Par.Own w B 5 bv (byteCells bs)) (hs:s.size≤255) (hl:bs.length≤2000000000) :
  Calls Tryz.prog 121 #[bv,.string s] w fun e w'=>∃ v',e=.returned v'∧Par.Own w' B 5 v' (byteCells (bs ++ ([s.size.toUInt8] ++ s.data.toList)))∧Gr w w' bv v':=by
 obtain ⟨Am,cm,rfl⟩:=hO.form
 rw [byteCells_length] at hO ⊢
 have HWS:Hid (WS B w (.slice Am bs.length cm) bs (.slice Am bs.length cm) w):=Lib.hid ⟨hO,Gr.refl _ _⟩
 have hwn:IntKind.u8.wrap (s.size:Int)=(s.size:Int):=by unfold IntKind.wrap;simp [IntKind.signed,IntKind.bits];omega
 have hsg3:=seg_u8 w s.size (by omega)
 have hal2:∀ o,Par.Own (w.alloc o) B 5 (.slice Am bs.length cm) (byteCells bs):=fun o=>hO.alloc o
 go_enter Tryz.func121,Tryz.ntmps121
 go_upto_region 2 with (at_builtin;refine wpList_app _ rfl _ _ _ rfl B 5 _ byteEQ _ _ rfl (hal2 _) _ _ _ rfl hsg3 (one_bytes _) ?c1 ?c2 ?_)
 case c1=>rw [byteCells_length];simp [byteCells];omega
 case c2=>simp;omega
 intro v3 w3 hown3 hg3 hat3
 have hws3:=WS.app (xs:=[s.size.toUInt8]) HWS.out hown3 hg3 (by rw [World.size_alloc];exact hat3)
 obtain ⟨cur3,hcur3⟩:∃ cur3,cur3=bs ++ [s.size.toUInt8]:=⟨_,rfl⟩
 have hcl3:cur3.length≤bs.length+1:=by rw [hcur3];simp
 rw [←hcur3] at hws3
 obtain ⟨A3,c3,rfl⟩:=hws3.form
 obtain ⟨cap,w4,hcv,hsg4,hb4,hz4⟩:=bytes_ofS s w3 (by omega)
 have hnl:s.data.toList.length=s.size:=by rw [Array.length_toList];rfl
 have ho4:Par.Own w4 B 5 (.slice A3 cur3.length c3) (byteCells cur3):=hws3.own.below hb4
 have HWS4:Hid (WS B w (.slice Am bs.length cm) cur3 (.slice A3 cur3.length c3) w4):=Lib.hid ⟨ho4,hws3.gr.trans (Gr.of_below hb4 _)⟩
 have hzB:B≤w4.heap.size:=by have:=hws3.gr.1.size;omega
 have HFIN:Hid (bs ++ ([s.size.toUInt8] ++ s.data.toList)=cur3 ++ s.data.toList):=Lib.hid (by rw [hcur3,List.append_assoc])
 have HO4:=Lib.hid ho4;have HSG4:=Lib.hid hsg4
 clear hown3 hg3 hat3 hws3 hsg3 hal2 hwn hcur3 hb4 hz4 ho4 hsg4 hO HWS
 go_wp2_with (at_builtin;refine wpList_app _ rfl _ _ _ rfl B 5 _ byteEQ _ _ rfl HO4.out _ _ _ rfl HSG4.out (one_bytes _) ?c1 ?c2 ?_)
 case c1=>rw [byteCells_length,byteCells_length];omega
 case c2=>omega
 intro v5 w5 hown5 hg5 hat5
 have hws5:=WS.app0 (xs:=s.data.toList) HWS4.out hown5 hg5 hat5
 have HE:Hid (Par.Own w5 B 5 v5 (byteCells (bs ++ ([s.size.toUInt8] ++ s.data.toList)))∧Gr w w5 (.slice Am bs.length cm) v5):=Lib.hid ⟨by rw [HFIN.out];exact hws5.own,hws5.gr⟩
 clear hws5 hown5 hg5 hat5 hcv
 go_wp2
 go_ret
 exact ⟨_,rfl,HE.out.1,HE.out.2⟩
set_option maxRecDepth 20000 in
set_option maxHeartbeats 4000000 in
theorem r14typ_any (B:Nat) (T:Ty):∀ (bs:List UInt8) (bv v:Value) (w:World),B≤w.heap.size→TyAt (· < B) w v T→Par.Own w B 5 bv (byteCells bs)→FitAll T→shortT T=true→bs.length+300 * T.parts≤2000000000 →
  Calls Tryz.prog 120 #[bv,v] w fun e w'=>∃ v',e=.returned v'∧Par.Own w' B 5 v' (byteCells (bs ++ wrT T))∧Gr w w' bv v':=by
 induction T using Ty.ind with
 | h T ih =>
  intro bs bv v w hB hT hO hF hS hp
  have IH:=Lib.hid ih
  clear ih
  obtain ⟨A,c,rfl,hc,hm,hn⟩:=hT.form
  obtain ⟨Am,cm,rfl⟩:=hO.form
  rw [byteCells_length] at hO ⊢
  obtain ⟨W1,hW1⟩:∃ W1,W1=w.alloc (.cells #[.int .i64 T.kind,.int .i64 T.num,.string T.name,.slice A T.args.length c] 61):=⟨_,rfl⟩
  have hb1:Below w.heap.size w W1:=by rw [hW1];exact (Below.refl _ _).alloc (Nat.le_refl _) _
  have hbx:W1.heap[w.heap.size]? = some (.cells #[.int .i64 T.kind,.int .i64 T.num,.string T.name,.slice A T.args.length c] 61 (0,0)):=by rw [hW1];exact heap_alloc_new _ _
  have hz1:W1.heap.size=w.heap.size+1:=by rw [hW1];simp
  have hT1:TyAt (· < B) W1 (tyV T.kind T.num T.name A T.args.length c) T:=hT.keep fun g hg=>⟨hg,hb1.block g (by omega)⟩
  have hO1:=hO.below hb1
  have HBX:=Lib.hid hbx;have HP:=Lib.hid hp;have HZ1:=Lib.hid hz1;have HT1:=Lib.hid hT1;have HB1:=Lib.hid hb1;have HB:=Lib.hid hB;have HFA:=Lib.hid hF;have HSH:=Lib.hid hS
  have HOL:Hid (∀ g,(Value.slice Am bs.length cm).ownBlock=some g→B≤g∧g < w.heap.size):=Lib.hid hO.lt
  obtain ⟨y0,y1,y2,y3⟩:=box4 hbx
  have hnl:=shortT_name hS
  have hal:=shortT_args hS
  have hpp:=T.parts_pos
  have hfs:=hF.self
  clear hT hbx hp hT1 hb1 hc hm hn hO hF hS
  unfold tyV
  obtain ⟨kn,hkn,hk1,hk4⟩:∃ kn:Nat,T.kind=(kn:Int)∧1≤kn∧kn≤4:=by
   obtain ⟨k,n,s,ts⟩:=T
   rcases fits_kinds hfs with ⟨h,_⟩|⟨h,_⟩|⟨h,_⟩|⟨h,_⟩
   ·exact ⟨1,h,by omega,by omega⟩
   ·exact ⟨2,h,by omega,by omega⟩
   ·exact ⟨3,h,by omega,by omega⟩
   ·exact ⟨4,h,by omega,by omega⟩
  have HWS:Hid (WS B W1 (.slice Am bs.length cm) bs (.slice Am bs.length cm) W1):=Lib.hid ⟨hO1,Gr.refl _ _⟩
  have hwk:IntKind.u8.wrap (kn:Int)=(kn:Int):=by unfold IntKind.wrap;simp [IntKind.signed,IntKind.bits];omega
  have hsg:=seg_u8 W1 kn (by omega)
  have hal1:∀ o,Par.Own (W1.alloc o) B 5 (.slice Am bs.length cm) (byteCells bs):=fun o=>hO1.alloc o
  have hbl:bs.length≤2000000000:=by have:=HP.out;omega
  have hzB:B≤W1.heap.size:=by have:=HB.out;omega
  have HBK:Hid (∀ cur sv W,WS B W1 (.slice Am bs.length cm) cur sv W→W.heap[w.heap.size]? = some (.cells #[.int .i64 T.kind,.int .i64 T.num,.string T.name,.slice A T.args.length c] 61 (0,0))∧TyAt (· < B) W (tyV T.kind T.num T.name A T.args.length c) T∧B≤W.heap.size):=Lib.hid fun cur sv W h=>by
   have hbb:=h.gr.below hzB fun g e=>(HOL.out g e).1
   exact ⟨(h.gr.block (by omega) (fun e=>by have:=(HOL.out _ e).2;omega)).trans HBX.out,HT1.out.keep fun g hg=>⟨hg,hbb.block g hg⟩,by have:=hbb.size;omega⟩
  clear hz1
  rw [hkn] at y0 hW1 HBK ⊢
  rw [hW1] at y0 y1 y2 y3
  clear hO1
  go_enter Tryz.func120,Tryz.ntmps120
  go_upto_region 1 with fail
  rw [←hW1]
  clear hW1 y0 y1 y2 y3
  obtain ⟨y0,y1,y2,y3⟩:=box4 (HBK.out _ _ _ HWS.out).1
  go_upto_region 2 with (at_builtin;refine wpList_app _ rfl _ _ _ rfl B 5 _ byteEQ _ _ rfl (hal1 _) _ _ _ rfl hsg (one_bytes _) ?c1 ?c2 ?_)
  case c1=>rw [byteCells_length];simp [byteCells];omega
  case c2=>simp;omega
  intro v2 w2 hown2 hg2 hat2
  have hws2:=WS.app (xs:=[kn.toUInt8]) HWS.out hown2 hg2 (by rw [World.size_alloc];exact hat2)
  obtain ⟨cur2,hcur2⟩:∃ cur2,cur2=bs ++ [kn.toUInt8]:=⟨_,rfl⟩
  have hcl2:cur2.length=bs.length+1:=by rw [hcur2];simp
  rw [←hcur2] at hws2
  obtain ⟨A2,c2,rfl⟩:=hws2.form
  have HWS2:=Lib.hid hws2
  have HCUR2:=Lib.hid hcur2
  have hc2b:cur2.length≤bs.length+1:=by omega
  obtain ⟨y0,y1,y2,y3⟩:=box4 (HBK.out _ _ _ hws2).1
  have hz2B:=(HBK.out _ _ _ hws2).2.2
  clear hcur2 hws2 hown2 hg2 hat2 hsg hal1 hcl2 hwk HWS
  by_cases h1:kn=1
  ·subst h1
   obtain ⟨nn,hnn,hnb⟩:∃ nn:Nat,T.num=(nn:Int)∧nn < 1073741824:=by
    obtain ⟨k,n,s,ts⟩:=T
    rcases fits_kinds hfs with ⟨_,h0,h1,_⟩|⟨h,_⟩|⟨h,_⟩|⟨h,_⟩
    ·have h0:0≤n:=h0
     have h1:n < 1073741824:=h1
     exact ⟨n.toNat,by show n=_;omega,by omega⟩
    all_goals (rw [hkn] at h;cases h)
   have HFIN:Hid (bs ++ wrT T=cur2 ++ be4Q nn):=Lib.hid (by
    rw [wrT_eq,hkn,if_pos (show ((1:Nat):Int)=1 from rfl),HCUR2.out,hnn,Int.toNat_natCast,List.append_assoc]
    rfl)
   rw [hnn] at y1
   have hal2:∀ o,Par.Own (w2.alloc o) B 5 (.slice A2 cur2.length c2) (byteCells cur2):=fun o=>HWS2.out.own.alloc o
   have hsg4:Seg (w2.alloc (.cells #[.int .u8 ((nn:Int) / 16777216),.int .u8 ((nn:Int) / 65536 % 256),.int .u8 ((nn:Int) / 256 % 256),.int .u8 ((nn:Int) % 256)] 5)) (w2.heap.size+1) (.slice (some ⟨w2.heap.size,0,none⟩) 4 4) (byteCells (be4Q nn)):=by
    have h:=Seg.new w2 5 #[.int .u8 ((nn:Int) / 16777216),.int .u8 ((nn:Int) / 65536 % 256),.int .u8 ((nn:Int) / 256 % 256),.int .u8 ((nn:Int) % 256)] (byteCells (be4Q nn)) (by
     rw [cells_be4 nn (by omega),show (nn:Int) / 16777216 % 256=(nn:Int) / 16777216 by omega]) (by rw [byteCells_length,be4_lengthQ];simp [maxLen])
    rw [byteCells_length,be4_lengthQ] at h
    exact h
   go_wp2_with (at_builtin;refine wpList_app _ rfl _ _ _ rfl B 5 _ byteEQ _ _ rfl (hal2 _) _ _ _ rfl hsg4 (one_bytes _) ?c1 ?c2 ?_)
   case c1=>rw [byteCells_length,byteCells_length,be4_lengthQ];omega
   case c2=>simp;omega
   intro v3 w3 hown3 hg3 hat3
   have hws3:=WS.app (xs:=be4Q nn) HWS2.out hown3 hg3 (by rw [World.size_alloc];exact hat3)
   have HE:Hid (Par.Own w3 B 5 v3 (byteCells (bs ++ wrT T))∧Gr w w3 (.slice Am bs.length cm) v3):=Lib.hid ⟨by rw [HFIN.out];exact hws3.own,(Gr.of_below HB1.out _).trans hws3.gr⟩
   clear hws3 hown3 hg3 hat3
   go_wp2
   go_ret
   exact ⟨_,rfl,HE.out.1,HE.out.2⟩
  have hk1f:((kn:Int) == 1)=false:=by simp;omega
  have hwa:IntKind.u8.wrap (T.args.length:Int)=(T.args.length:Int):=by unfold IntKind.wrap;simp [IntKind.signed,IntKind.bits];omega
  have HNM:=Lib.hid (r14name_any B T.name cur2 (.slice A2 cur2.length c2) w2 hz2B HWS2.out.own hnl (by have:=HP.out;omega))
  have h3l:T.name.data.toList.length=T.name.size:=by rw [Array.length_toList];rfl
  go_upto_region 4 with fail
  go_upto_if 35 with fail
  go_cut [0] (fun sv W=>∃ cur4,Hid (WS B W1 (.slice Am bs.length cm) cur4 sv W)∧Hid (bs ++ wrT T=cur4 ++ ([T.args.length.toUInt8] ++ wrL T.args))∧Hid (cur4.length≤bs.length+257))
  case first =>
   by_cases h2:kn=2
   ·subst h2
    go_wp2_with (go_at_call 121;refine HNM.out.mono ?_;rintro e w4 ⟨v4,rfl,hO4,hg4⟩)
    go_meet
    refine ⟨cur2 ++ ([T.name.size.toUInt8] ++ T.name.data.toList),Lib.hid ⟨hO4,HWS2.out.gr.trans hg4⟩,Lib.hid ?_,Lib.hid ?_⟩
    ·rw [wrT_eq,hkn,if_neg (show ¬ ((2:Nat):Int)=1 by decide),if_pos (show ((2:Nat):Int)=2 from rfl),HCUR2.out]
     simp only [List.append_assoc]
     rfl
    ·simp only [List.length_append,List.length_singleton,h3l];omega
   ·have hk2f:((kn:Int) == 2)=false:=by simp;omega
    have HPRE:Hid (bs ++ wrT T=cur2 ++ ([T.args.length.toUInt8] ++ wrL T.args)):=Lib.hid (by
     rw [wrT_eq,hkn,if_neg (show ¬ ((kn:Nat):Int)=1 by omega),if_neg (show ¬ ((kn:Nat):Int)=2 by omega),HCUR2.out,Int.toNat_natCast]
     simp only [List.append_assoc,List.nil_append])
    go_wp2_with fail
    go_meet
    exact ⟨cur2,HWS2,HPRE,Lib.hid (by omega)⟩
  case rest =>
   obtain ⟨cur4,HWS4,HPRE,HCL4⟩:=hcut
   have hws4:=HWS4.out
   clear y0 y1 y2 y3 HNM HCUR2 HWS2 hz2B hc2b
   obtain ⟨A4,c4,rfl⟩:=hws4.form
   obtain ⟨y0,y1,y2,y3⟩:=box4 (HBK.out _ _ _ hws4).1
   have hz4B:=(HBK.out _ _ _ hws4).2.2
   have hsg5:=seg_u8 wc T.args.length (by omega)
   have hal5:∀ o,Par.Own (wc.alloc o) B 5 (.slice A4 cur4.length c4) (byteCells cur4):=fun o=>HWS4.out.own.alloc o
   have hcl4:cur4.length≤bs.length+257:=HCL4.out
   clear hws4
   go_upto_region 7 with (at_builtin;refine wpList_app _ rfl _ _ _ rfl B 5 _ byteEQ _ _ rfl (hal5 _) _ _ _ rfl hsg5 (one_bytes _) ?c1 ?c2 ?_)
   case c1=>rw [byteCells_length];simp [byteCells];omega
   case c2=>simp;omega
   intro v5 w5 hown5 hg5 hat5
   have hws5:=WS.app (xs:=[T.args.length.toUInt8]) HWS4.out hown5 hg5 (by rw [World.size_alloc];exact hat5)
   obtain ⟨cur5,hcur5⟩:∃ cur5,cur5=cur4 ++ [T.args.length.toUInt8]:=⟨_,rfl⟩
   rw [←hcur5] at hws5
   have HEQ5:Hid (cur5 ++ wrL (T.args.drop 0)=bs ++ wrT T):=Lib.hid (by rw [List.drop_zero,HPRE.out,hcur5,List.append_assoc])
   have HLE5:Hid (cur5.length+300 * partsL (T.args.drop 0)≤bs.length+300 * T.parts):=Lib.hid (by
    rw [List.drop_zero,hcur5,List.length_append,T.parts_eq];simp;omega)
   have HWS5:=Lib.hid hws5
   clear y0 y1 y2 y3 hws5 hcur5 hown5 hg5 hat5 hal5 hsg5 hwa HPRE hcl4 hk1f hnl h1 HCL4 HWS4
   go_wp2
   go_loopw [0,5] (fun sv iv W=>∃ (k:Nat) (cur:List UInt8),k≤T.args.length∧iv=.int .i64 k∧Hid (WS B W1 (.slice Am bs.length cm) cur sv W)∧Hid (cur ++ wrL (T.args.drop k)=bs ++ wrT T)∧Hid (cur.length+300 * partsL (T.args.drop k)≤bs.length+300 * T.parts)) (fun _ iv _=>T.args.length - (RowKit.intOf iv).toNat)
   case atStart=>exact ⟨0,cur5,by omega,rfl,HWS5,HEQ5,HLE5⟩
   case round =>
    obtain ⟨k,cur,hk,rfl,HWSR,HEQ,HLE⟩:=hrel
    obtain ⟨As,cs,es⟩:=HWSR.out.form
    subst es
    obtain ⟨y0,y1,y2,y3⟩:=box4 (HBK.out _ _ _ HWSR.out).1
    by_cases hlt:k < T.args.length
    ·obtain ⟨-,htr,hzr⟩:=HBK.out _ _ _ HWSR.out
     obtain ⟨b,off,A',c',rfl,hb,ht,x0,x1,x2,x3⟩:=htr.arg hlt
     have heq:=HEQ.out
     rw [wrL_step hlt] at heq
     have hps:=partsL_step hlt
     have hwl:=wrT_len T.args[k] (shortT_arg HSH.out (List.getElem_mem hlt))
     have hle:=HLE.out
     have hca:=IH.out k hlt cur (.slice As cur.length cs) _ wr hzr ht HWSR.out.own (HFA.out.arg hlt) (shortT_arg HSH.out (List.getElem_mem hlt)) (by have:=HP.out;omega)
     have HNX:Hid ((cur ++ wrT T.args[k]) ++ wrL (T.args.drop (k+1))=bs ++ wrT T):=Lib.hid (by rw [List.append_assoc];exact heq)
     have HLX:Hid ((cur ++ wrT T.args[k]).length+300 * partsL (T.args.drop (k+1))≤bs.length+300 * T.parts):=Lib.hid (by rw [List.length_append];omega)
     clear ht htr heq hps hwl hle
     generalize cur ++ wrT T.args[k]=cur2n at *
     generalize T.args[k]=V at *
     unfold tyV at hca
     have HCA:=Lib.hid hca
     clear hca
     go_wp2_with fail
     refine HCA.out.mono ?_
     rintro e w6 ⟨v6,rfl,hO6,hg6⟩
     have HWS6:Hid (WS B W1 (.slice Am bs.length cm) cur2n v6 w6):=Lib.hid ⟨hO6,HWSR.out.gr.trans hg6⟩
     clear hO6 hg6
     go_wp2
     go_roundw
     case rel=>exact ⟨k+1,cur2n,by omega,by go_num,HWS6,HNX,HLX⟩
     case measure=>simp [RowKit.intOf];omega
    ·have hkl:k=T.args.length:=by omega
     have heq:=HEQ.out
     rw [hkl,List.drop_length,wrL,List.append_nil] at heq
     have HE:Hid (Par.Own wr B 5 (.slice As cur.length cs) (byteCells (bs ++ wrT T))∧Gr w wr (.slice Am bs.length cm) (.slice As cur.length cs)):=Lib.hid ⟨by rw [←heq];exact HWSR.out.own,(Gr.of_below HB1.out _).trans HWSR.out.gr⟩
     clear heq
     go_wp2
     go_ret
     exact ⟨_,rfl,HE.out.1,HE.out.2⟩
end Go.Proofs.YtaalbcfpacpgfaaGreat
