/- The reference's index: take. -/
import Derived.BigRegion
import Derived.Test.YtaalbcfpacpgfaaGreatZaR2
import Derived.Test.YtaalbcfpacpgfaaGreatZaYZ
set_option linter.unusedVariables false
set_option linter.unusedSimpArgs false
namespace Go.Proofs.YtaalbcfpacpgfaaGreat
open Go.RowKit Go.Lib Go.Vfs Go.Par Go.Typ Go.Shelf Go.Ix
def TkPost (S:Nat→Prop) (xs:List En) (L:List UInt8) (w:World) (e:Ending) (w':World):Prop :=
 Below w.heap.size w w'∧∃ (A:Option Addr) (n c:Nat) (ok:Bool),e=.returned (.tuple #[.slice A n c,.bool ok])∧(stepE xs L=none→ok=false) ∧
  ∀ ys,stepE xs L=some ys→ok=true∧n=ys.length∧EntsAt (New S w w') w' (.slice A n c) ys
theorem tk_none {S:Nat→Prop} {xs:List En} {L:List UInt8} {w w':World} {A:Option Addr} {n c:Nat} (h:stepE xs L=none) (hb:Below w.heap.size w w'):TkPost S xs L w (.returned (.tuple #[.slice A n c,.bool false])) w' :=
 ⟨hb,A,n,c,false,rfl,fun _=>rfl,fun ys h2=>by rw [h] at h2;cases h2⟩
theorem tk_some {S:Nat→Prop} {xs ys:List En} {L:List UInt8} {w w':World} {A:Option Addr} {c:Nat} (h:stepE xs L=some ys) (hb:Below w.heap.size w w') (hx:EntsAt (New S w w') w' (.slice A ys.length c) ys):TkPost S xs L w (.returned (.tuple #[.slice A ys.length c,.bool true])) w' :=
 ⟨hb,A,ys.length,c,true,rfl,(fun h2=>by rw [h] at h2;cases h2),fun zs h2=>by rw [h] at h2;injection h2 with h2;subst h2;exact ⟨rfl,rfl,hx⟩⟩
theorem stepE_none {xs:List En} {L:List UInt8} (h:readE L=none):stepE xs L=none:=by unfold stepE;rw [h]
theorem stepE_rem {xs:List En} {L:List UInt8} {e:En} (h:readE L=some (e,false)):stepE xs L=some (dropL keyE (keyE e) xs):=by unfold stepE;rw [h]
theorem stepE_pub {xs:List En} {L:List UInt8} {e:En} (h:readE L=some (e,true)):stepE xs L=some (withL keyE e xs):=by unfold stepE;rw [h]
set_option maxRecDepth 20000 in
set_option maxHeartbeats 4000000 in
theorem rtake_any (xs:List En) (L:List UInt8) (vx v:Value) (w:World) (S:Nat→Prop) (hS:∀ g,S g→g < w.heap.size) (hX:EntsAt S w vx xs) (hsg:Seg w w.heap.size v (byteCells L)) (hxl:xs.length≤100000) (hLl:L.length≤1000000):Calls Tryz.prog 58 #[vx,v] w (TkPost S xs L w):=by
 obtain ⟨P,hP⟩:∃ P,P=TkPost S xs L w:=⟨_,rfl⟩
 have HPO:=Lib.hid hP
 rw [←hP]
 clear hP
 obtain ⟨Ax,cx,rfl,hcx,hmx⟩:=hX.form
 have HX:=Lib.hid hX
 have HS:=Lib.hid hS
 obtain ⟨A,c,rfl,hc,hm,hat⟩:=hsg.open_bytes
 have HAT:=Lib.hid hat;have HSG:=Lib.hid hsg
 have HXL:=Lib.hid hxl
 have HBR:Hid (Below w.heap.size w w):=Lib.hid (Below.refl _ _)
 clear hX hS hsg hat hcx hmx
 generalize hxn:xs.length=xn at *
 have HXN:=Lib.hid hxn
 clear hxn hxl
 by_cases h2:L.length < 2
 ·have g2:(L.length:Int) < 2:=by omega
  have HRN:Hid (stepE xs L=none):=Lib.hid (stepE_none (by unfold readE;rw [if_pos (.inl h2)]))
  go_enter Tryz.func58,Tryz.ntmps58
  go_wp2
  rw [HPO.out]
  exact tk_none HRN.out HBR.out
 have h2':2≤L.length:=by omega
 obtain ⟨b,off,x0,rfl,hb,hc0,hx0,Hx0⟩:=HAT.out.byte (show 0 < L.length by omega)
 obtain ⟨_,_,x1,e1,-,hc1,hx1,Hx1⟩:=HAT.out.byte (show 1 < L.length by omega)
 cases e1
 simp only [Nat.add_zero] at hc0
 have g2:¬ (L.length:Int) < 2:=by omega
 have gi:1 < L.length:=by omega
 by_cases hn:L.length - 2 < x1
 ·have g3:(L.length:Int) < 2+(x1:Int):=by omega
  have HRN:Hid (stepE xs L=none):=Lib.hid (stepE_none (by unfold readE;rw [if_pos (.inr (by rw [Hx1.out];exact hn))]))
  go_enter Tryz.func58,Tryz.ntmps58
  go_wp2
  rw [HPO.out]
  exact tk_none HRN.out HBR.out
 have hn':2+x1≤L.length:=by omega
 have g3:¬ (L.length:Int) < 2+(x1:Int):=by omega
 obtain ⟨hc3,A3,c3,hsl3,hsg3⟩:=seg_sub HSG.out 2 (2+x1) (by omega) hn'
 obtain ⟨A4,c4,hsl4,hsg4⟩:=seg_drop HSG.out (2+x1) hn'
 rw [Nat.add_sub_cancel_left] at hsl3 hsg3
 have r3:∀ w',(Instr.slice 24 (.slice (some ⟨b,off,none⟩) L.length c) (some (.int .i64 2)) (some (.int .i64 (2+(x1:Int)))) none).run Tryz.prog w'=.ok (.slice A3 x1 c3) w':=fun w'=>by
  have:=slice_lhB (some ⟨b,off,none⟩) L.length c 2 (2+x1) w' (by omega) hc3
  rw [hsl3] at this
  exact this
 have r4:∀ w',(Instr.slice 24 (.slice (some ⟨b,off,none⟩) L.length c) (some (.int .i64 (2+(x1:Int)))) none none).run Tryz.prog w'=.ok (.slice A4 (L.length - (2+x1)) c4) w':=fun w'=>by
  have:=slice_from (some ⟨b,off,none⟩) L.length c (2+x1) w' hn'
  rw [hsl4] at this
  exact this
 have k3:(convert 24 9 (.slice A3 x1 c3)).run Tryz.prog w=.ok (.string ⟨((L.drop 2).take x1).toArray⟩) w:=conv_segB hsg3
 obtain ⟨U,hU⟩:∃ U:ByteArray,U=⟨((L.drop 2).take x1).toArray⟩:=⟨_,rfl⟩
 have hUs:U.size=x1:=by
  rw [hU]
  show ((L.drop 2).take x1).toArray.size=_
  simp only [List.size_toArray,List.length_take,List.length_drop];omega
 rw [←hU] at k3
 obtain ⟨M,hM⟩:∃ M,M=L.length - (2+x1):=⟨_,rfl⟩
 rw [←hM] at r4
 rw [←hUs] at r4
 have HRU:Hid (∀ W,Calls Tryz.prog 77 #[.string U] W fun e w'=>e=.returned (.bool (uriOk U))∧w'=W):=Lib.hid fun W=>ruri_any U (by omega) W
 have HSG4:=Lib.hid hsg4
 have hx1':(x1:Int)≤255:=by omega
 have hUl:U.size≤255:=by omega
 have HN:=Lib.hid hn'
 have HUU:=Lib.hid hU;have HMM:=Lib.hid hM;have HUS:=Lib.hid hUs
 clear hsg3 hsg4 hsl3 hsl4 hU hM hUs hn hc3 hx0 hx1 hc hm h2 h2' hn'
 go_enter Tryz.func58,Tryz.ntmps58
 go_wp2_with fail
 refine (HRU.out _).mono ?_
 rintro e w2 ⟨rfl,rfl⟩
 by_cases hu:uriOk U=true
 rotate_left
 ·have hu':uriOk U=false:=by simpa using hu
  have HRN:Hid (stepE xs L=none):=Lib.hid (stepE_none (by
   unfold uriOk at hu'
   rw [HUS.out] at hu'
   have:=of_decide_eq_false hu'
   unfold readE;rw [Hx1.out,if_neg (by have:=HN.out;omega),if_pos this]))
  rw [hu']
  clear hu hu'
  go_wp2
  rw [HPO.out]
  exact tk_none HRN.out HBR.out
 have huu:=hu
 unfold uriOk at huu
 rw [HUS.out] at huu
 have HUB:=Lib.hid (of_decide_eq_true huu)
 have HPRE:Hid (readE L=tailE U x0 (L.drop (2+x1))):=Lib.hid (by
  unfold readE
  rw [Hx1.out,if_neg (by have:=HN.out;omega),if_neg (fun hn=>hn HUB.out),HUU.out,Hx0.out])
 obtain ⟨R,hR⟩:∃ R,R=L.drop (2+x1):=⟨_,rfl⟩
 have hRl:R.length=M:=by rw [hR,HMM.out,List.length_drop]
 have hsgR:Seg w2 w2.heap.size (.slice A4 R.length c4) (byteCells R):=by rw [hRl,HMM.out,hR];exact HSG4.out
 rw [←hR] at HPRE
 rw [hu]
 clear hu huu
 by_cases hx2:x0=2
 ·subst hx2
  have HT:Hid (readE L=if R.length=0 then some (⟨U,0,[]⟩,false) else none):=Lib.hid (by rw [HPRE.out];rfl)
  have HCW:=Lib.hid (r20without_any xs U _ w2 S HS.out (by rw [←HXN.out] at HX;exact HX.out) (by rw [HXN.out];have:=HXL.out;omega))
  rw [HXN.out] at HCW
  have HRL:=Lib.hid hRl
  clear HPRE hsgR hR hRl
  go_wp2_with fail
  refine HCW.out.mono ?_
  rintro e w3 ⟨A5,c5,rfl,hx5,hb5⟩
  have HX5:=Lib.hid hx5;have HB5:=Lib.hid hb5
  clear hx5 hb5 HCW
  obtain ⟨n5,hn5⟩:∃ n5,n5=(dropL keyE U.data.toList xs).length:=⟨_,rfl⟩
  rw [←hn5]
  rw [←hn5] at HX5
  have HN5:=Lib.hid hn5
  clear hn5
  go_wp2
  rw [HPO.out]
  by_cases hM0:M=0
  ·have hs:stepE xs L=some (dropL keyE U.data.toList xs):=stepE_rem (e:=⟨U,0,[]⟩) (by rw [HT.out,if_pos (by have:=HRL.out;omega)])
   have hx:=HX5.out
   rw [HN5.out] at hx ⊢
   rw [show ((M:Int) == 0)=true by subst hM0;rfl]
   exact tk_some hs HB5.out hx
  ·have hs:stepE xs L=none:=stepE_none (by rw [HT.out,if_neg (by have:=HRL.out;omega)])
   rw [show ((M:Int) == 0)=false by rw [beq_eq_false_iff_ne];omega]
   exact tk_none hs HB5.out
 have hx2':((x0:Int) == 2)=false:=by rw [beq_eq_false_iff_ne];omega
 by_cases hx1:x0=1
 rotate_left
 ·have hx1':((x0:Int) != 1)=true:=by simp only [bne_iff_ne,ne_eq];omega
  have HT0:Hid (stepE xs L=none):=Lib.hid (stepE_none (by rw [HPRE.out];exact tailE_oth hx2 hx1))
  clear HPRE hsgR hR hRl hx2 hx1
  go_wp2
  rw [HPO.out]
  exact tk_none HT0.out HBR.out
 subst hx1
 by_cases hM4:M < 4
 ·have hM4':(M:Int) < 4:=by omega
  have HT0:Hid (stepE xs L=none):=Lib.hid (stepE_none (by rw [HPRE.out];exact tailE_short (by omega)))
  clear HPRE hsgR hR hRl hx2
  go_wp2
  rw [HPO.out]
  exact tk_none HT0.out HBR.out
 have hR4:¬ R.length < 4:=by omega
 have hM4':¬ (M:Int) < 4:=by omega
 obtain ⟨A5,c5,hsl5,hsg5⟩:=seg_drop hsgR 4 (by omega)
 have r5:∀ w',(Instr.slice 24 (.slice A4 M c4) (some (.int .i64 4)) none none).run Tryz.prog w'=.ok (.slice A5 (M - 4) c5) w':=fun w'=>by
  have:=slice_from A4 R.length c4 4 w' (by omega)
  rw [hsl5,hRl] at this
  exact this
 obtain ⟨A4',c4',eA,_,_,hatR⟩:=hsgR.open_bytes
 injection eA with eA1 _ eA2
 subst eA1 eA2
 obtain ⟨b4,o4,z0,hA4,hb4,hd0,hz0,Hz0⟩:=hatR.byte (show 0 < R.length by omega)
 subst hA4
 obtain ⟨_,_,z1,e1,-,hd1,hz1,Hz1⟩:=hatR.byte (show 1 < R.length by omega)
 cases e1
 obtain ⟨_,_,z2,e1,-,hd2,hz2,Hz2⟩:=hatR.byte (show 2 < R.length by omega)
 cases e1
 obtain ⟨_,_,z3,e1,-,hd3,hz3,Hz3⟩:=hatR.byte (show 3 < R.length by omega)
 cases e1
 simp only [Nat.add_zero] at hd0
 have hnum:numB (R.take 4)=z0 * 16777216+z1 * 65536+z2 * 256+z3:=by rw [numB4 R (by omega),Hz0.out,Hz1.out,Hz2.out,Hz3.out]
 obtain ⟨N,hN⟩:∃ N:Nat,N=z0 * 16777216+z1 * 65536+z2 * 256+z3:=⟨_,rfl⟩
 have hor:=or4X z0 z1 z2 z3 hz0 hz1 hz2 hz3
 rw [←hN] at hor hnum
 have HNU:=Lib.hid hnum
 have hNl:N < 4294967296:=by rw [hN];exact n4_lt z0 z1 z2 z3 hz0 hz1 hz2 hz3
 clear hN
 have gg0:0 < M:=by omega
 have gg1:1 < M:=by omega
 have gg2:2 < M:=by omega
 have gg3:3 < M:=by omega
 have hs0:=byte_le z0 hz0
 have hs1:=byte_le z1 hz1
 have hs2:=byte_le z2 hz2
 have hs3:=byte_le z3 hz3
 have HSG5:=Lib.hid hsg5
 have HR4:=Lib.hid hR4
 have HRL:=Lib.hid hRl
 have hRL6:(R.drop 4).length≤1000000:=by rw [List.length_drop];have:=HMM.out;omega
 have HRL6:=Lib.hid hRL6
 clear hatR hsgR hsl5 hsg5 hnum hR4 hRl hR hz0 hz1 hz2 hz3 hRL6 hx2 hM4
 go_wp2_with fail
 go_region
 obtain ⟨W5,hW5⟩:∃ W5,W5=(w2.alloc (.cells #[.string U,.int .i64 (N:Int),.slice none 0 0] 55)).drew:=⟨_,rfl⟩
 have hbx5:W5.heap[w2.heap.size]? = some (.cells #[.string U,.int .i64 (N:Int),.slice none 0 0] 55 (0,0)):=by
  rw [hW5]
  exact heap_alloc_new w2 _
 have hb5:Below w2.heap.size w2 W5:=by
  have h:=(Below.refl w2.heap.size w2).alloc (Nat.le_refl _) (.cells #[.string U,.int .i64 (N:Int),.slice none 0 0] 55)
  rw [hW5];exact ⟨h.os,h.tape,h.output,h.size,h.block⟩
 have hz5:W5.heap.size=w2.heap.size+1:=by
  rw [hW5]
  show (w2.alloc (.cells #[.string U,.int .i64 (N:Int),.slice none 0 0] 55)).heap.size=_
  simp
 have hsgD:Seg W5 W5.heap.size (.slice A5 (R.length - 4) c5) (byteCells (R.drop 4)):=(HSG5.out.below hb5).more (by omega)
 rw [HRL.out] at hsgD
 have hca:=rdecode_any (R.drop 4) HRL6.out _ W5 hsgD
 have HB5:=Lib.hid hb5;have HBX5:=Lib.hid hbx5;have HZ5:=Lib.hid hz5;have HCA:=Lib.hid hca
 rw [←hW5]
 clear hca hsgD hz5 hb5 hW5 hbx5 hor hd0 hd1 hd2 hd3
 go_wp2_with fail
 refine HCA.out.mono ?_
 rintro e w6 ⟨hb6,v6,rfl,hs6,hn6⟩
 have hz6:=hb6.size
 have hz5:=HZ5.out
 have hbx6:=(hb6.block _ (by omega)).trans HBX5.out
 have HB6:Hid (Below w2.heap.size w2 w6):=Lib.hid (HB5.out.trans (hb6.mono (by omega)))
 have HK6:Hid (∀ u:Value,Below w2.heap.size w2 (w6.setCell ⟨w2.heap.size,2,none⟩ u)):=Lib.hid fun u=>HB6.out.trans (((Kept.refl (· = w2.heap.size) _).setCell (p:=⟨w2.heap.size,2,none⟩) (.inl rfl) _).below (by omega) (fun k hk=>by omega))
 obtain ⟨y0,y1,y2⟩:=box3 hbx6
 obtain ⟨q0,q1,q2⟩:=box3_frozen hbx6
 cases hd:decX (R.drop 4) with
 | none =>
  have HT0:Hid (stepE xs L=none):=Lib.hid (stepE_none (by rw [HPRE.out];exact tailE_dec HR4.out hd))
  have hv6:=hn6 hd
  subst hv6
  clear hs6 hn6 hb6 hbx6 HPRE
  dsimp only [Option.isSome]
  go_wp2
  rw [HPO.out]
  exact tk_none HT0.out (HK6.out _)
 | some ys =>
  have hxs:=hs6 ys hd
  obtain ⟨A6,c6,rfl,-,-⟩:=hxs.form
  dsimp only [Option.isSome]
  by_cases hN:1073741824≤N
  ·have hN':(1073741824:Int)≤(N:Int):=by omega
   have HT0:Hid (stepE xs L=none):=Lib.hid (stepE_none (by rw [HPRE.out];exact tailE_big HR4.out (by rw [HNU.out];exact hN)))
   clear hs6 hn6 hb6 hbx6 hxs HPRE
   go_wp2
   rw [HPO.out]
   exact tk_none HT0.out (HK6.out _)
  ·have hN':¬ (1073741824:Int)≤(N:Int):=by omega
   have HT0:Hid (stepE xs L=some (withL keyE ⟨U,(N:Int),ys⟩ xs)):=Lib.hid (stepE_pub (by rw [HPRE.out,←HNU.out];exact tailE_ok HR4.out hd (by rw [HNU.out];exact hN)))
   obtain ⟨W7,hW7⟩:∃ W7,W7=w6.setCell ⟨w2.heap.size,2,none⟩ (.slice A6 ys.length c6):=⟨_,rfl⟩
   have hbx7:W7.heap[w2.heap.size]? = some (.cells #[.string U,.int .i64 (N:Int),.slice A6 ys.length c6] 55 (0,0)):=by
    rw [hW7]
    have:=cells_put hbx6 2 (.slice A6 ys.length c6)
    simpa using this
   have hk7:Kept (· = w2.heap.size) w6 W7:=by rw [hW7];exact (Kept.refl (· = w2.heap.size) _).setCell (p:=⟨w2.heap.size,2,none⟩) (.inl rfl) _
   have hb7:Below w2.heap.size w2 W7:=by rw [hW7];exact HK6.out _
   have hz7:=hk7.size
   have hcw:=r20with_any xs ⟨U,(N:Int),ys⟩ A6 c6 (.slice Ax xn cx) W7 (fun g=>S g∨(w2.heap.size≤g∧g < W7.heap.size))
    (fun g hg=>by
     rcases hg with hg|hg
     ·have:=HS.out g hg;omega
     ·exact hg.2)
    (HX.out.keep fun g hg=>⟨.inl hg,hb7.block g (HS.out g hg)⟩)
    ⟨A6,c6,rfl,by show U.size≤_;have:=HUB.out;rw [HUS.out];omega,hxs.keep fun g hg=>⟨.inr ⟨by omega,by omega⟩,hk7.block g hg.2 (by omega)⟩⟩ (by rw [HXN.out];have:=HXL.out;omega)
   have HCW:=Lib.hid hcw
   have HB7:=Lib.hid hb7
   obtain ⟨p0,p1,p2⟩:=box3 hbx7
   rw [hW7] at p0 p1 p2
   clear hs6 hn6 hb6 hbx6 hxs HPRE hcw hb7 hbx7 hk7 hz7
   change Hid (Calls Tryz.prog 70 #[.slice Ax xn cx,.agg #[.string U,.int .i64 (N:Int),.slice A6 ys.length c6]] W7 _) at HCW
   go_wp2_with fail
   rw [←hW7]
   clear hW7 p0 p1 p2 y0 y1 y2 q0 q1 q2
   refine HCW.out.mono ?_
   rintro e w8 ⟨A8,c8,rfl,hx8,hb8⟩
   have hz7:=HB7.out.size
   have HF:Hid (TkPost S xs L w2 (.returned (.tuple #[.slice A8 (withL keyE ⟨U,(N:Int),ys⟩ xs).length c8,.bool true])) w8):=Lib.hid (tk_some HT0.out (HB7.out.trans (hb8.mono hz7)) (hx8.keep fun g hg=>⟨by
    have:=hb8.size
    rcases hg with hg|hg
    ·rcases hg with hg | hg
     ·exact .inl hg
     ·exact .inr ⟨hg.1,by omega⟩
    ·exact .inr ⟨by omega,hg.2⟩,rfl⟩))
   generalize (withL keyE ⟨U,(N:Int),ys⟩ xs).length=n8 at *
   clear hx8 hb8
   go_wp2
   rw [HPO.out]
   exact HF.out
end Go.Proofs.YtaalbcfpacpgfaaGreat
