/- The reference's index: with. -/
import Derived.Test.YtaalbcfpacpgfaaGreatZaR1
set_option linter.unusedVariables false
set_option linter.unusedSimpArgs false
namespace Go.Ix
open Go.RowKit Go.Lib Go.Vfs Go.Par Go.Typ
theorem withL_drop (E:En) (xs:List En):withL keyE E (dropL keyE (keyE E) xs)=withL keyE E xs:=by
 unfold withL
 rw [show dropL keyE (keyE E) (dropL keyE (keyE E) xs)=dropL keyE (keyE E) xs by unfold dropL;rw [List.filter_filter];simp]
end Go.Ix
namespace Go.Proofs.YtaalbcfpacpgfaaGreat
open Go.RowKit Go.Lib Go.Vfs Go.Par Go.Typ Go.Shelf Go.Ix
set_option maxRecDepth 20000 in
set_option maxHeartbeats 4000000 in
theorem r20with_any (xs:List En) (E:En) (A':Option Addr) (c':Nat) (v:Value) (w:World) (S:Nat→Prop) (hS:∀ g,S g→g < w.heap.size) (hX:EntsAt S w v xs) (hEE:EntAt S w (enV E A' c') E) (hl:xs.length≤100000) :
  Calls Tryz.prog 70 #[v,enV E A' c'] w fun e w'=>∃ A c,e=.returned (.slice A (withL keyE E xs).length c)∧EntsAt (New S w w') w' (.slice A (withL keyE E xs).length c) (withL keyE E xs)∧Below w.heap.size w w':=by
 obtain ⟨A,c,rfl,hc,hm⟩:=hX.form
 obtain ⟨out2,ho2⟩:∃ o,o=withL keyE E xs:=⟨_,rfl⟩
 rw [←ho2]
 have hmk:out2=modE E (dropL keyE (keyE E) xs):=by rw [ho2,modE_with,withL_drop]
 have hap:=dropN_apart (E:=E) (xs:=xs)
 have hol:(dropL keyE (keyE E) xs).length≤xs.length:=List.length_filter_le _ _
 have hns:E.uri.size≤9223372036854775807:=by obtain ⟨_,_,_,h,_⟩:=hEE;exact h
 obtain ⟨W1,hW1⟩:∃ W1,W1=w.alloc (.cells #[.string E.uri,.int .i64 E.ver,.slice A' E.exs.length c'] 55):=⟨_,rfl⟩
 have hb1:Below w.heap.size w W1:=by rw [hW1];exact (Below.refl _ _).alloc (Nat.le_refl _) _
 have hbx:W1.heap[w.heap.size]? = some (.cells #[.string E.uri,.int .i64 E.ver,.slice A' E.exs.length c'] 55 (0,0)):=by rw [hW1];exact heap_alloc_new _ _
 have HCW:=Lib.hid (r20without_any xs E.uri _ W1 S (fun g hg=>by have:=hS g hg;have:=hb1.size;omega) (hX.keep fun g hg=>⟨hg,hb1.block g (hS g hg)⟩) (by omega))
 change Hid (Calls Tryz.prog 71 _ W1 fun e w'=>∃ A c,e=.returned (.slice A (dropL keyE (keyE E) xs).length c)∧EntsAt (New S W1 w') w' (.slice A (dropL keyE (keyE E) xs).length c) (dropL keyE (keyE E) xs)∧Below W1.heap.size W1 w') at HCW
 obtain ⟨x0,x1,x2⟩:=box3 hbx
 have HBX:=Lib.hid hbx
 have HB1:=Lib.hid hb1
 have HMKN:=Lib.hid hmk
 have HAP:=Lib.hid hap
 have HEE:=Lib.hid hEE
 have HS:=Lib.hid hS
 rw [hW1] at x0 x1 x2
 clear hX hS hb1 hbx hmk hap hEE ho2 hc hm
 unfold enV
 go_enter Tryz.func70,Tryz.ntmps70
 go_wp2_with fail
 rw [←hW1] at x0 x1 x2 ⊢
 clear hW1
 refine HCW.out.mono ?_
 rintro e wo ⟨Ao,co,rfl,hO,hbo⟩
 have HO:=Lib.hid hO
 have hzo:=hbo.size
 have hlt1:=lt_blk HBX.out
 have HB:Hid (Below w.heap.size w wo):=Lib.hid (HB1.out.trans (hbo.mono HB1.out.size))
 have hzw:w.heap.size≤wo.heap.size:=HB.out.size
 have hbo2:w.heap.size < wo.heap.size:=by omega
 have hbxo:=(hbo.block _ hlt1).trans HBX.out
 have HE:Hid (∀ W',Below wo.heap.size wo W'→EntAt S W' (enV E A' c') E∧W'.cell? ⟨w.heap.size,0,none⟩=some (.string E.uri)∧W'.cell? ⟨w.heap.size,1,none⟩=some (.int .i64 E.ver)∧W'.cell? ⟨w.heap.size,2,none⟩=some (.slice A' E.exs.length c')) :=
  Lib.hid fun W' h=>by
   obtain ⟨y0,y1,y2⟩:=box3 ((h.block _ hbo2).trans hbxo)
   exact ⟨HEE.out.keep fun g hg=>⟨hg,(h.block g (by have:=HS.out g hg;omega)).trans (HB.out.block g (HS.out g hg))⟩,y0,y1,y2⟩
 have HTG:Hid (∀ g,New S W1 wo g→(S g∨w.heap.size≤g)∧g < wo.heap.size):=Lib.hid fun g hg=>by
  rcases hg with hg|hg
  ·exact ⟨.inl hg,by have:=HS.out g hg;omega⟩
  ·exact ⟨.inr (by have:=HB1.out.size;omega),hg.2⟩
 clear HCW hO hbo hbxo HBX HB1 x0 x1 x2
 change Hid (EntsAt (New S W1 wo) wo (.slice Ao (dropL keyE (keyE E) xs).length co) (dropL keyE (keyE E) xs)) at HO
 generalize hgo:dropL keyE (keyE E) xs=out at *
 obtain ⟨W2,hW2⟩:∃ W2,W2=wo.alloc (.cells #[] 55):=⟨_,rfl⟩
 have hb2:Below wo.heap.size wo W2:=by rw [hW2];exact (Below.refl _ _).alloc (Nat.le_refl _) _
 have HR0:Hid (RowK 55 3 (EntG (fun g=>S g∨w.heap.size≤g)) 0 wo.heap.size W2 [] (.slice (some ⟨wo.heap.size,0,none⟩) 0 0) []):=Lib.hid (by rw [hW2];exact RowK.made wo (Nat.le_refl _))
 have HB2:=Lib.hid hb2
 clear hb2 hgo
 go_wp2
 rw [←hW2]
 clear hW2
 go_loopw [5,6,7] (fun sv pv jv W'=>∃ (j:Nat) (us:List Value),j≤out.length∧pv=.bool (modS E (out.take j)).2∧jv=.int .i64 j∧Hid (RowK 55 3 (EntG (fun g=>S g∨w.heap.size≤g)) 0 wo.heap.size W' (modS E (out.take j)).1 sv us)∧Hid (Below wo.heap.size wo W')) (fun _ _ jv _=>out.length - (RowKit.intOf jv).toNat)
 case atStart=>exact ⟨0,[],by omega,rfl,rfl,HR0,HB2⟩
 case round =>
  obtain ⟨j,us,hj,rfl,rfl,HR,HBI⟩:=hrel
  have hzi:=HBI.out.size
  have hac:(modS E (out.take j)).1.length≤2 * j:=by
   have:=modS_len E (out.take j)
   rw [List.length_take] at this;omega
  obtain ⟨-,x0,x1,x2⟩:=HE.out wr HBI.out
  by_cases hjl:j < out.length
  ·obtain ⟨b2,off2,A2,c2,rfl,hb2,hns2,ht2,y0,y1,y2⟩:=(HO.out.keep (S':=New S W1 wo) fun g hg=>⟨hg,HBI.out.block g (HTG.out g hg).2⟩).arg hjl
   have hb2:=(HTG.out b2 hb2).2
   have hst:=modS_step E hjl
   have HY:Hid (∀ W',Below wo.heap.size wr W'→EntAt (New S W1 wo) W' (enV out[j] A2 c2) out[j]∧W'.cell? ⟨b2,off2+j * 3,none⟩=some (.string out[j].uri)∧W'.cell? ⟨b2,off2+j * 3+1,none⟩=some (.int .i64 out[j].ver)∧W'.cell? ⟨b2,off2+j * 3+2,none⟩=some (.slice A2 out[j].exs.length c2)):=Lib.hid fun W' h =>
    ⟨⟨A2,c2,rfl,hns2,ht2.keep fun g hg=>⟨hg,h.block g (by have:=(HTG.out g hg).2;omega)⟩⟩,(h.cell (p:=⟨_,_,none⟩) hb2).trans y0,(h.cell (p:=⟨_,_,none⟩) hb2).trans y1,(h.cell (p:=⟨_,_,none⟩) hb2).trans y2⟩
   generalize modS E (out.take j)=st at *
   obtain ⟨acc,pl⟩:=st
   simp only at hac hst HR ⊢
   clear ht2 hns2
   have hn:¬ out[j].uri=E.uri:=HAP.out _ (List.getElem_mem hjl)
   generalize out[j]=Y at *
   have HOL:Hid (∀ g,u5.ownBlock=some g→wo.heap.size≤g∧g < wr.heap.size):=Lib.hid fun g e=>HR.out.lt g e
   have HQ1:Hid (∀ (wa wb:World) (n:Nat),Below wo.heap.size wo wa→RowK 55 3 (EntG (fun g=>S g∨w.heap.size≤g)) 0 wo.heap.size wa acc u5 us→Below wo.heap.size wr wa→wb=wa.drewN n→Below wo.heap.size wo wb∧RowK 55 3 (EntG (fun g=>S g∨w.heap.size≤g)) 0 wo.heap.size wb acc u5 us∧Below wo.heap.size wr wb):=Lib.hid fun wa wb n h1 h2 h3 e=>by
    subst e
    exact ⟨below_drewN h1 n,RowK.below (R:=EntG (fun g=>S g∨w.heap.size≤g)) EntG.keep h2 (below_drewN (Below.refl _ _) n),below_drewN h3 n⟩
   go_wp2_with fail
   have Hb1:Hid (Below wo.heap.size wr wr):=Lib.hid (Below.refl _ _)
   have hcs:(pl=false∧Op.bytesLess E.uri.toList Y.uri.toList=true)∨pl=true∨(pl=false∧Op.bytesLess E.uri.toList Y.uri.toList=false):=by
    cases pl with
    | true=>exact .inr (.inl rfl)
    | false =>
     cases hb:Op.bytesLess E.uri.toList Y.uri.toList with
     | false=>exact .inr (.inr ⟨rfl,rfl⟩)
     | true=>exact .inl ⟨rfl,rfl⟩
   rcases hcs with hins|hcs
   focus
    have hsk:modS E (out.take (j+1))=((acc ++ [E]) ++ [Y],true):=by rw [hst];rw [modStep_apart hn,if_pos hins]
    obtain ⟨rfl,hbl⟩:=hins
    go_quiet (fail)
    generalize hwz2:wr.drewN nq=wz2
    obtain ⟨hB2,hR2,hb2⟩:=HQ1.out wr wz2 nq HBI.out HR.out Hb1.out hwz2.symm
    obtain ⟨hEE,x0,x1,x2⟩:=HE.out wz2 hB2
    have HEE:=Lib.hid hEE;have HR2:=Lib.hid hR2;have HB2':=Lib.hid hB2;have Hb2:=Lib.hid hb2
    have hz2:=hB2.size
    obtain ⟨acc2,hacc2⟩:∃ acc2,acc2=acc ++ [E]:=⟨_,rfl⟩
    rw [←hacc2] at hsk
    have HSK:=Lib.hid hsk
    have HACC2:=Lib.hid hacc2
    have hown:=hR2.own
    obtain ⟨us',hus⟩:∃ us',us'=us.flatMap flatC:=⟨_,rfl⟩
    obtain ⟨m,hm⟩:∃ m,m=acc.length:=⟨_,rfl⟩
    rw [←hus,←hm] at hown
    rw [←hm] at hac
    have HUS:=Lib.hid hus
    have HM:=Lib.hid hm
    have hal2:acc2.length≤2 * j+1:=by rw [hacc2,List.length_append,←hm];simp;omega
    clear hn hst hsk hacc2 hus hm hwz2 hEE hR2 hB2 hb2 y0 y1 y2
    go_upto_region 10 with (at_builtin;refine wpList_appK _ rfl _ _ _ rfl wo.heap.size _ 3 enE _ m us' rfl (World.ownsRow.alloc hown _) ⟨wz2.heap.size,0,none⟩ 1 1 [.string E.uri,.int .i64 E.ver,.slice A' E.exs.length c'] rfl rfl (cells_new _ _ _) (one3 _ _ _ _ _) (by omega) (by simp;omega) ?_;intro v3 w3 hown3 hg3 hat3)
    have hR4:RowK 55 3 (EntG (fun g=>S g∨w.heap.size≤g)) 0 wo.heap.size w3 acc2 v3 (us ++ [enV E A' c']):=by
     rw [HACC2.out]
     refine rowG_app (T:=S) HR2.out HEE.out (fun g hg=>⟨.inl hg,by have:=HS.out g hg;omega⟩) (by omega) ?_ hg3 hat3
     rw [←HM.out,←HUS.out];exact hown3
    have hgr:Gr wz2 w3 u5 v3:=Gr.app hg3 hat3
    have hgb:Below wo.heap.size wz2 w3:=hgr.below (by omega) fun g e=>(HOL.out g e).1
    have hb4:Below wo.heap.size wo w3:=HB2'.out.trans hgb
    obtain ⟨us2,hus2⟩:∃ us2,us2=us ++ [enV E A' c']:=⟨_,rfl⟩
    obtain ⟨W4,hW4⟩:∃ W4,W4=w3:=⟨_,rfl⟩
    obtain ⟨sv2,hsv2⟩:∃ sv2,sv2=v3:=⟨_,rfl⟩
    have hY4:=HY.out w3 (Hb2.out.trans hgb)
    rw [←hus2,←hW4,←hsv2] at hR4
    rw [←hW4] at hb4 hY4
    rw [←hsv2,←hW4]
    clear hown3 hg3 hat3 hgr hgb hown HACC2 HUS HM hW4 hsv2 hus2 hbl hac x0 x1 x2
   rotate_left
   focus
    have hsk:modS E (out.take (j+1))=(acc ++ [Y],pl):=by
     rw [hst];rw [modStep_apart hn,if_neg]
     rintro ⟨h1,h2⟩
     rcases hcs with h|⟨-,h⟩
     ·rw [h] at h1;cases h1
     ·rw [h] at h2;cases h2
    obtain ⟨acc2,hacc2⟩:∃ acc2,acc2=acc:=⟨_,rfl⟩
    have hal2:acc2.length≤2 * j+1:=by rw [hacc2];omega
    clear hn hst
    rcases hcs with rfl|⟨rfl,hbl⟩
    all_goals
     go_quiet (fail)
     generalize hwz2:wr.drewN nq=wz2
     obtain ⟨hB2,hR4,hb2⟩:=HQ1.out wr wz2 nq HBI.out HR.out Hb1.out hwz2.symm
     rw [←hacc2] at hsk hR4
     have HSK:=Lib.hid hsk
     clear hsk hwz2 hacc2
     go_upto_region 10 with fail
     obtain ⟨us2,hus2⟩:∃ us2,us2=us:=⟨_,rfl⟩
     obtain ⟨W4,hW4⟩:∃ W4,W4=wz2:=⟨_,rfl⟩
     obtain ⟨sv2,hsv2⟩:∃ sv2,sv2=u5:=⟨_,rfl⟩
     have hb4:=hB2
     have hY4:=HY.out wz2 hb2
     rw [←hus2,←hW4,←hsv2] at hR4
     rw [←hW4] at hb4 hY4
     rw [←hsv2,←hW4]
     clear hW4 hsv2 hus2 hac x0 x1 x2 y0 y1 y2 hB2 hb2
   all_goals
    have hown:=hR4.own
    obtain ⟨us',hus⟩:∃ us',us'=us2.flatMap flatC:=⟨_,rfl⟩
    obtain ⟨m,hm⟩:∃ m,m=acc2.length:=⟨_,rfl⟩
    rw [←hus,←hm] at hown
    rw [←hm] at hal2
    have HUS:=Lib.hid hus
    have HM:=Lib.hid hm
    have HR4:=Lib.hid hR4
    have HB4:=Lib.hid hb4
    obtain ⟨hYe,y0,y1,y2⟩:=hY4
    have HYE:=Lib.hid hYe
    have hz4:wo.heap.size≤W4.heap.size:=hb4.size
    clear hus hm hR4 hb4 hYe
    go_wp2_with (at_builtin;refine wpList_appK _ rfl _ _ _ rfl wo.heap.size _ 3 enE _ m us' rfl (World.ownsRow.alloc hown _) ⟨W4.heap.size,0,none⟩ 1 1 [.string Y.uri,.int .i64 Y.ver,.slice A2 Y.exs.length c2] rfl rfl (cells_new _ _ _) (one3 _ _ _ _ _) (by omega) (by simp;omega) ?_;intro v5 w5 hown5 hg5 hat5)
    have hR5:RowK 55 3 (EntG (fun g=>S g∨w.heap.size≤g)) 0 wo.heap.size w5 (acc2 ++ [Y]) v5 (us2 ++ [enV Y A2 c2]):=by
     refine rowG_app (T:=New S W1 wo) HR4.out HYE.out HTG.out hz4 ?_ hg5 hat5
     rw [←HM.out,←HUS.out];exact hown5
    have HR5:=Lib.hid hR5
    have HB5:Hid (Below wo.heap.size wo w5):=Lib.hid (below_grow HB4.out hz4 _ hg5 (fun g e=>(hown.lt g e).1))
    clear hR5 hown5 hg5 hat5 hown y0 y1 y2
    go_wp2
    go_roundw
    case rel=>exact ⟨j+1,_,by omega,by rw [HSK.out],by go_num,Lib.hid (by rw [HSK.out];exact HR5.out),HB5⟩
    case measure=>simp [RowKit.intOf];omega
  ·have hjk:j=out.length:=by omega
   have hr:=HR.out
   rw [hjk,List.take_length] at hr hac ⊢
   have HFIN:Hid (modE E out=if (modS E out).2 then (modS E out).1 else (modS E out).1 ++ [E]):=Lib.hid rfl
   have hwb:Below w.heap.size w wr:=HB.out.trans (HBI.out.mono hzw)
   have HBW:=Lib.hid hwb
   clear hwb HR
   generalize modS E out=st at *
   obtain ⟨acc,pl⟩:=st
   simp only at hac hr HFIN ⊢
   have HOL:Hid (∀ g,u5.ownBlock=some g→wo.heap.size≤g∧g < wr.heap.size):=Lib.hid fun g e=>hr.lt g e
   cases pl with
   | true =>
    have hf:out2=acc:=by rw [HMKN.out,HFIN.out];rfl
    have HEN:=Lib.hid hr.entsG
    obtain ⟨Af,cf,hff,-,-⟩:=hr.form
    clear hr HMKN HFIN
    subst hff
    go_wp2
    go_ret
    exact ⟨Af,cf,by rw [hf];rfl,by rw [hf];exact HEN.out.keep fun g hg=>⟨hg.1.elim (fun h=>h.imp id (fun h=>⟨h,hg.2⟩)) (fun h=>.inr ⟨by omega,hg.2⟩),rfl⟩,HBW.out⟩
   | false =>
    have hf:out2=acc ++ [E]:=by rw [HMKN.out,HFIN.out];rfl
    have HF:=Lib.hid hf
    have hown:=hr.own
    obtain ⟨us',hus⟩:∃ us',us'=us.flatMap flatC:=⟨_,rfl⟩
    obtain ⟨m,hm⟩:∃ m,m=acc.length:=⟨_,rfl⟩
    rw [←hus,←hm] at hown
    rw [←hm] at hac
    have HUS:=Lib.hid hus
    have HM:=Lib.hid hm
    have HR2:=Lib.hid hr
    clear hus hm hf hr HMKN HFIN
    go_wp2_with (at_builtin;refine wpList_appK _ rfl _ _ _ rfl wo.heap.size _ 3 enE _ m us' rfl (World.ownsRow.alloc hown _) ⟨wr.heap.size,0,none⟩ 1 1 [.string E.uri,.int .i64 E.ver,.slice A' E.exs.length c'] rfl rfl (cells_new _ _ _) (one3 _ _ _ _ _) (by omega) (by simp;omega) ?_;intro v5 w5 hown5 hg5 hat5)
    have hR5:RowK 55 3 (EntG (fun g=>S g∨w.heap.size≤g)) 0 wo.heap.size w5 out2 v5 (us ++ [enV E A' c']):=by
     rw [HF.out]
     refine rowG_app (T:=S) HR2.out (HE.out wr HBI.out).1 (fun g hg=>⟨.inl hg,by have:=HS.out g hg;omega⟩) hzi ?_ hg5 hat5
     rw [←HM.out,←HUS.out];exact hown5
    have HEN:=Lib.hid hR5.entsG
    obtain ⟨Af,cf,hff,-,-⟩:=hR5.form
    have HB5:Hid (Below w.heap.size w w5):=Lib.hid (HB.out.trans ((below_grow HBI.out hzi _ hg5 (fun g e=>(hown.lt g e).1)).mono hzw))
    clear hR5 hown5 hg5 hat5 hown x0 x1 x2
    subst hff
    go_wp2
    go_ret
    exact ⟨Af,cf,rfl,HEN.out.keep fun g hg=>⟨hg.1.elim (fun h=>h.imp id (fun h=>⟨h,hg.2⟩)) (fun h=>.inr ⟨by omega,hg.2⟩),rfl⟩,HB5.out⟩
end Go.Proofs.YtaalbcfpacpgfaaGreat
