import Derived.Deep.CutBlock
import Derived.Deep.RegionHeldLaw
import Derived.Test.YtaalbcfpacpgfaaGreatZdI28
set_option linter.all false
set_option maxHeartbeats 16000000
set_option maxRecDepth 100000
open Go renaming Calls->H_
open Go.Ending renaming returned->k_
open Go.IntKind renaming i64->d_
open Go.Obj renaming cells->f_
open Go.Proofs.Tryz renaming prog->h_
open Go.RowKit renaming Below->n_,Hid->x_,intOf->A_
open Go.Value renaming pointer->i_,slice->a_
open Option renaming none->b_,some->c_
namespace Go.Proofs.YtaalbcfpacpgfaaGreat
open Go.RowKit Go.Lib Go.Vfs Go.Par Go.Typ Go.Shelf Go.Ix
theorem pS(aa:Int)(hU:-9223372036854775808<=aa/\aa<=9223372036854775807)(v:Value)(hD:List vm)(W:World)(h:fa W W v hD):
  H_ h_ 7 #[.int d_ aa,v] W λe W'=>e=k_ (.bool true)/\n_ W W W':=by
 have kn:=Z_ hU.2;clear hU;obtain⟨A0,c0,rfl,-,-⟩:=h.form;have HS:=Z_ h;clear h;go_enter Tryz.func7,Tryz.ntmps7;go_wp2_with fail;refine(wv W).mono ?_;rintro e w1 ⟨rfl,hG⟩;have hH:=Z_ hG;go_wp2_with fail;refine(C3 _ hD W w1 (HS.o.below hG)).mono ?_;rintro e v8 ⟨u,rfl,hu,rfl⟩;have m3:(hD.take 40).length<=40:=by simp;omega
 generalize hD.take 40=os at*;obtain⟨A,c,rfl,z7,Ad⟩:=hu.form;have HU:=Z_ (hu.same λb bp=>(hH.o.block b bp).symm);have hV:=Z_ (uj _ os v8 (hu.more hG.size) O_);have m4:x_ (∀E∈os.map (·.E),E.uri.size<=140737488355328):=Z_ λE hE=>by
  obtain⟨o,ho,rfl⟩:=Lr.1 hE;obtain⟨A',c',e,h2,h3,h4,h5⟩:=hu;exact(h4 o ho).uri
 clear hu HS hG;go_wp2_with fail;refine hV.o.mono ?_;rintro e w2 ⟨A2,c2,rfl,m7,nc⟩;have nd:=Z_ (wk (os.map (·.E)) m4.o _ w2 m7);have kr:x_ (n_ W W w2):=Z_ (hH.o.trans (nc.mono hH.o.size));clear m7 nc hV hH m4;go_wp2_with fail;refine nd.o.mono ?_;rintro e w3 ⟨q,rfl,hq,nf⟩;have hJ:x_ (n_ W W w3):=Z_ (kr.o.trans (nf.mono kr.o.size));have HQ:=Z_ hq;clear hq nf kr nd;cases q with
 |true=>
  go_wp2;go_ret;exact⟨rfl,hJ.o⟩
 |false=>
 have HW:x_ (dL (os.map (·.E))<=3000):=Z_ (HQ.o (by simp;omega) rfl);clear HQ;go_wp2_with fail;refine(DJ aa w3).mono ?_;rintro e w4 ⟨p,F,rfl,hK,hF,eA⟩;have nm:=hJ.o.size;have k0:x_ (n_ W W w4):=Z_ (hJ.o.trans (eA.mono nm));have HF:x_ (∀k,F k->W.heap.size<=k):=Z_ λk hk=>Kj nm (hF k hk).1
 have nn:=Z_ (jT w4 p ⟨aa,[]⟩ F hK Calm.nil O_ O_ kn.o (λx hx=>by rw[lC]at hx;injection hx with hx;subst hx;exact⟨by decide,λl hl=>(by cases hl)⟩));clear hK hF eA hJ;go_wp2_with fail;refine nn.o.mono ?_;rintro e w5 bt;rw[lC]at bt;obtain⟨px,F5,H5,S5,rfl,nq,ns,-,-⟩:=bt.held (es:=[]) rfl k0.o L_ HF.o;have gi:=Z_ nq;have wa:=Z_ λk hk=>Kj k0.o.size (ns k (.inr hk))
 have b5:=Z_ (mA ⟨aa,[]⟩ kn.o b_ 0 (λ_=>False) w5 (λb hb=>hb.elim) (aA.nil _ _) (by simp) (by simp) (λx hx=>by rw[lC]at hx;injection hx with hx;subst hx;exact⟨by decide,λl hl=>(by cases hl)⟩));clear bt nq ns nn HF k0;go_wp2_with fail;refine b5.o.mono ?_;rintro e O wb;obtain⟨A6,n6,c6,gen,Ab,nb,cb,Ar,nr,cr,Al,nl,cl,er,rfl,k1,k2,k3⟩:=wb;rw[lC]at k1 k3⊢;have nu:er=0/\gen=((0:Nat):Int)/\_/\_/\nl=0/\_:=k3;obtain⟨rfl,rfl,g1,g2,rfl,g3⟩:=nu;have gn:x_ (IE W (O.alloc (f_ #[.int d_ aa,a_ A6 n6 c6,.int d_ ((0:Nat):Int),a_ Ab nb cb,a_ Ar nr cr,a_ Al 0 cl] 47)) (os.map (·.E)) 0 px p F5 H5 S5 O ⟨⟨aa,[]⟩,0,[],[],[]⟩ (a_ A6 n6 c6) (a_ Ab nb cb) (a_ Ar nr cr) (a_ Al 0 cl)):=Z_ (by
  have k4:=ah O (f_ #[.int d_ aa,a_ A6 n6 c6,.int d_ ((0:Nat):Int),a_ Ab nb cb,a_ Ar nr cr,a_ Al 0 cl] 47);have hx:=gi.o;have nv:=k2.size;have Af:=hx.below.size;have nw:=hx.go L_ k2;have bp:=hx.xf.lt;have hn:=r_ O (f_ #[.int d_ aa,a_ A6 n6 c6,.int d_ ((0:Nat):Int),a_ Ab nb cb,a_ Ar nr cr,a_ Al 0 cl] 47);have ho:¬(F5 O\/H5 O\/S5 O):=λhf=>by have:=bp _ hf;omega
  have key:∀b,w5.heap.size<=b/\b<O.heap.size->PK (O.alloc (f_ #[.int d_ aa,a_ A6 n6 c6,.int d_ ((0:Nat):Int),a_ Ab nb cb,a_ Ar nr cr,a_ Al 0 cl] 47)) (λk=>F5 k\/H5 k\/S5 k) O O b/\(O.alloc (f_ #[.int d_ aa,a_ A6 n6 c6,.int d_ ((0:Nat):Int),a_ Ab nb cb,a_ Ar nr cr,a_ Al 0 cl] 47)).heap[b]?=O.heap[b]?:=λb hb=>⟨⟨by simp;omega,λhf=>by have:=bp _ hf;omega,by omega,by omega⟩,k4.block b hb.2⟩
  exact⟨⟨nw.go L_ k4,⟨(nw.go L_ k4).below,hn,hn,⟨by omega,by omega⟩,⟨ho,ho⟩,⟨k1.ae λb hb=>key b (hb.resolve_left λh=>h),g1.ae key,g2.ae key⟩,g3.ae key⟩,wa.o⟩,
   kn.o,⟨b_,b_,0,V3.nil,λf hf=>(by cases hf),.inl ⟨rfl,rfl⟩⟩,Calm.nil.mono (Km _) (Km _),Km _,Km _,λl hl=>(by cases hl),rfl⟩)
 clear k1 k3 g1 g2 g3 k2 b5 gi;obtain⟨G,k5⟩:=N_ (O.heap.size);rw[<-k5]at gn;go_upto_region 13 with fail;rw[<-k5];clear k5
 go_cut [10]from 25 to 53 (λiv wx=>iv=.int d_ 0/\x_ (IE W wx (os.map (·.E)) 0 px p F5 H5 S5 G ⟨⟨aa,[]⟩,0,[],[],[]⟩ (a_ A6 n6 c6) (a_ Ab nb cb) (a_ Ar nr cr) (a_ Al 0 cl)))
 case first=>
  go_wp2;go_meet;exact⟨rfl,gn⟩
 case rest=>
 obtain⟨rfl,gn⟩:=hcut;obtain⟨W0,rfl⟩:=N_ (wc);go_wp2_with fail
 go_loopw [5,6,10] (λfv xv i wr=>∃(k p px:Nat) (F H S:Nat->Prop) (J:Xn) (v bv rv lv:Value),k<=os.length/\fv=i_ (c_ ⟨p,0,b_⟩)/\xv=i_ (c_ ⟨px,0,b_⟩)/\i=.int d_ k/\x_ (IE W wr (os.map (·.E)) k px p F H S G J v bv rv lv)) (λ_ _ i _=>os.length - (A_ i).toNat)
 case atStart=>exact⟨0,p,px,F5,H5,S5,_,_,_,_,_,by omega,rfl,rfl,rfl,gn⟩
 clear gn;obtain⟨k,p,px,F,H,S,J,v,bv,rv,lv,hk,rfl,rfl,rfl,HJ⟩:=hrel;by_cases bp:k<os.length
 ·have df:=HJ.o.jx.jm.below
  have k7:=(HU.o.Jf k bp).1;obtain⟨-,b,off,rfl,hb,d0,d1,d2,d3,d4,d5⟩:=(HU.o.below df).Jf k bp;obtain⟨Ak,ck,k8,-⟩:=k7.ints;rw[ew]at k8;have nB:k<(os.map (·.E)).length:=by simpa using bp
  have hL:os[k].E∈os.map (·.E):=Kw (JB bp);have lf:kt (os.map (·.E)) (k+1)=kt (os.map (·.E)) k+pT os[k].E:=by rw[Cr nB,List.getElem_map]
  have nP:=Z_ (Fo (os.map (·.E)) (k+1) HW.o);have HK:=Z_ (show k<os.length/\k<40 by omega);have lk:x_ ((os.map (·.E)).length<=40):=Z_ (by simpa using m3);have U:x_ (CJ J):=Z_ (HJ.o.li.sm lk.o HW.o O_ O_ (by have:=nP.o;omega));have wg:=Bz HW.o hL;generalize os[k]=o at*;obtain⟨dK,n,E,A',c',kv,M⟩:=o;simp only at k8 d0 d1 d2 d3 d4 d5 lf hL wg;subst k8;have bf:=Z_ k7;have eC:=Z_ lf;have wo:=Z_ hL;have gp:x_ (∀w,n_ W W w->bW (·<W.heap.size) w (eV E A' c') E):=Z_ λw hw=>bf.o.IF.ae λb hb=>⟨hb,hw.block b hb⟩
  have l3:x_ (vg E):=Z_ ⟨λx hx=>(bf.o.ok x hx).Ie,by omega⟩;generalize wq:os.map (·.E)=Es at*;obtain⟨D,bx⟩:=N_ (wr.alloc (f_ #[.int d_ dK,.int d_ n,.string E.uri,.int d_ E.bu,a_ A' E.aI.length c',a_ Ak M.length ck] 81));have I:x_ (JX W D px p J F H S G J v bv rv lv wr #[.int d_ dK,.int d_ n,.string E.uri,.int d_ E.bu,a_ A' E.aI.length c',a_ Ak M.length ck] 81):=Z_ (by
   rw[bx];exact⟨HJ.o.jx.xh.go L_ (ah wr _),HJ.o.jx.jm.step HJ.o.jx.Di _ _,HJ.o.jx.sn⟩)
  have bB:x_ (wr.heap.size≠G):=Z_ (by have:=HJ.o.jx.jm.lt.1;omega);have e0:=Z_ HJ.o.li;obtain⟨bo,l4⟩:=N_ (wr.heap.size);rw[<-l4]at I bB;clear k7 hb nB hL lf wq df HJ
  go_upto_block 2 with fail
  rw[<-bx,<-l4];clear bx l4 d0 d1 d2 d3 d4 d5;obtain⟨o0,o1,o2,o3,o4,o5,o6⟩:=kB I.o.jm.tq
  go_cut [12,13,14]from 54 to 127 (λev gv _ wx=>∃(er V:Int) (F' H' S':Nat->Prop) (J':Xn) (v' w0 w7 xk:Value),ev=.int d_ er/\gv=.int d_ er/\x_ (FG W wx Es k px p F' H' S' G J' v' w0 w7 xk bo V (λx=>#[x,.int d_ n,.string E.uri,.int d_ E.bu,a_ A' E.aI.length c',a_ Ak M.length ck])))
  case first=>
   by_cases h1:dK=1
   ·subst h1
    as_aux_lemma=>
    have cv:=Z_ (mN E l3.o _ D ((gp.o D I.o.jm.below).ae λb (hb:b<W)=>⟨Kc hb I.o.jm.below.size,rfl⟩));unfold eV at cv;go_wp2_with fail;refine cv.o.mono ?_;rintro e w8 ⟨A8,c8,rfl,j,b6⟩;obtain⟨W9,e1⟩:=N_ (w8.alloc (f_ #[.string E.uri,.int d_ E.bu,a_ A8 E.aI.length c8] 55));have gy:n_ w8 w8 W9:=by rw[e1];exact ah _ _
    have Am:W9.heap.size=w8.heap.size+1:=by rw[e1];simp
    have n0:=b6.size;have l5:W9.heap[w8.heap.size]?=c_ (f_ #[.string E.uri,.int d_ E.bu,a_ A8 E.aI.length c8] 55 (0,0)):=by rw[e1];exact r_ _ _
    have oi:=I.o.go (b6.trans (gy.mono n0));have l6:x_ (bA (λg=>D.heap.size<=g/\g<W9.heap.size) W9 (a_ A8 E.aI.length c8) E.aI):=Z_ (j.ae λg hg=>⟨⟨hg.1,by omega⟩,gy.block g hg.2⟩);have e3:x_ (E.uri.size<=9223372036854775807):=Z_ (by have h:E.uri.size<=140737488355328:=bf.o.uri;omega);have oj:=Z_ (oi.I6 U.o (u:=.agg #[.string E.uri,.int d_ E.bu,a_ A8 E.aI.length c8]) (E:=E) ⟨A8,c8,rfl,e3.o,l6.o.ae λg hg=>⟨⟨hg.2,λhf=>by have:=I.o.Di g (.inl hf);omega,λhf=>by have:=I.o.Di g (.inr (.inl hf));omega⟩,rfl⟩⟩);obtain⟨s0,s1,s2⟩:=aR l5;rw[e1]at s0 s1 s2;have ot:=Z_ l5;clear j b6 gy l5 oi cv;go_wp2_with fail;rw[<-e1];clear e1 s0 s1 s2 o0 o1 o2 o3 o4 o5 o6;refine oj.o.mono ?_;rintro e cc ⟨rfl,hW⟩;obtain⟨ov,ox,pe,bd,gz⟩:=hW.o;have cd:=Z_ bd;have l7:=Z_ (bd.jm.Ja bd.Di U.o ((gp.o cc bd.jm.below).ae λb hb=>⟨bd.gu b hb,rfl⟩) bf.o.ok (by have:=l3.o.2;omega));unfold eV at l7;obtain⟨⟨x0,x1,x2,x3,x4,x5⟩,y0,y1,y2,y3,y4,y5⟩:=bd.jm.cells;obtain⟨p0,p1,p2,p3,p4,p5,p6⟩:=kB bd.jm.tq;have hX:x_ (∀b,D.heap.size<=b->b<W9.heap.size->b<cc.heap.size/\cc.heap[b]?=W9.heap[b]?):=Z_ λb h1 h2=>⟨by have:=gz.size;omega,gz.block b h2 λhf=>by have:=I.o.Di b (hf.imp id .inl);omega⟩
    have g0:=Z_ (LI.mono (e0.o.I6 wo.o) L_ L_ (by rw[eC.o];omega):LX Es (k+1) (5*k+4) (280000+78*(k+1)+kt Es (k+1)) _);have xn:x_ (G<D):=Z_ I.o.jm.lt.1;generalize zk J E=R at*;obtain⟨J8,er⟩:=R;clear oj bd gz hW I;go_wp2_with fail;refine l7.o.mono ?_;rintro e bN ⟨A9,n9,c9,Y,Z,ad,ak,av,a1,a2,ba,bb,rfl,hY,HB11⟩;have h8:=Z_ (cd.o.go HB11.o);obtain⟨bn,dv⟩:=N_ (((((((bN.setCell ⟨G,0,b_⟩ (.int d_ J8.st.aa)).setCell ⟨G,1,b_⟩ (a_ A9 n9 c9)).setCell ⟨G,2,b_⟩ (.int d_ (J8.g:Nat))).setCell ⟨G,3,b_⟩ (a_ Y Z ad)).setCell ⟨G,4,b_⟩ (a_ ak av a1)).setCell ⟨G,5,b_⟩ (a_ a2 ba bb)));have eb:=h8.o.store bB.o hY.o dv;have ee:=rS G bN (.int d_ J8.st.aa) (a_ A9 n9 c9) (.int d_ (J8.g:Nat)) (a_ Y Z ad) (a_ ak av a1) (a_ a2 ba bb);rw[<-dv]at ee;have l8:∀b,D.heap.size<=b->b<W9.heap.size->b<bn.heap.size/\bn.heap[b]?=W9.heap[b]?:=λb h1 h2=>by
     obtain⟨h3,h4⟩:=hX.o b h1 h2;have h5:=HB11.o.size;have h6:=ee.size;have h7:=xn.o;exact⟨by omega,(ee.block b O_ O_).trans ((HB11.o.block b h3).trans h4)⟩
    have pj:x_ (bA (·<bn.heap.size) bn (a_ A8 E.aI.length c8) E.aI):=Z_ (l6.o.ae λg hg=>l8 g hg.1 hg.2);have eg:=Z_ eb;have pt:=Z_ ((l8 w8 n0 O_).2.trans ot.o);have xp:x_ (bA (·<bn.heap.size) bn (a_ A' E.aI.length c') E.aI):=Z_ (by
     obtain⟨A1,c1,e,-,he⟩:=gp.o bn eb.jm.below;injection e with e;have e:=J7 (·[2]?) e;simp at e;obtain⟨rfl,rfl⟩:=e;exact he.ae λg (hg:g<W)=>⟨Kc hg eb.jm.below.size,rfl⟩)
    clear x0 x1 x2 x3 x4 x5 y0 y1 y2 y3 y4 y5 p0 p1 p2 p3 p4 p5 p6 l7 cd hY l6 ot l8 hX ee eb;obtain⟨⟨x0,x1,x2,x3,x4,x5⟩,y0,y1,y2,y3,y4,y5⟩:=h8.o.jm.cells;go_upto_region 24 with fail;rw[<-dv];clear dv x0 x1 x2 x3 x4 x5 y0 y1 y2 y3 y4 y5;obtain⟨s0,s1,s2⟩:=aR pt.o;obtain⟨q0,q1,q2,q3,q4,q5,q6⟩:=kB eg.o.jm.tq;obtain⟨r0,r1,r2,r3,r4,r5,r6⟩:=kB ((ah bn (f_ #[.string E.uri,.int d_ E.bu,a_ A8 E.aI.length c8] 55)).block bo eg.o.jm.lt.2|>.trans eg.o.jm.tq);go_wp2_with fail;clear s0 s1 s2 q0 q1 q2 q3 q4 q5 q6 r0 r1 r2 r3 r4 r5 r6;refine(xu e3.o pj.o xp.o _ _ _ (dp (dp B_ _) _) (by simp only[jR,Mm,LY];simp) (by simp only[jR,Mm,LY];simp)).mono ?_;rintro e x6 ⟨rfl,pv⟩;have K:x_ (FG W x6 Es k px p ov ox pe G J8 (a_ A9 n9 c9) (a_ Y Z ad) (a_ ak av a1) (a_ a2 ba bb) bo 1 (λx=>#[x,.int d_ n,.string E.uri,.int d_ E.bu,a_ A' E.aI.length c',a_ Ak M.length ck])):=Z_ (LX.sw (eg.o.go (by
     have h0:=dp (dp (JG bn bn) (f_ #[.string E.uri,.int d_ E.bu,a_ A8 E.aI.length c8] 55)) (f_ #[.string E.uri,.int d_ E.bu,a_ A' E.aI.length c'] 55);exact h0.trans (pv.o.mono h0.size))) g0.o HK.o.2)
    go_wp2;go_meet;exact⟨er,1,ov,ox,pe,J8,_,_,_,_,rfl,rfl,K⟩
   by_cases h2:dK=2
   ·subst h2
    have cf:=Z_ (I.o.I9 U.o E.uri (by have h:E.uri.size<=140737488355328:=bf.o.uri;omega));go_wp2_with fail;refine cf.o.mono ?_;rintro e w8 ⟨rfl,cg⟩;obtain⟨F8,H8,S8,j,-⟩:=cg.o;have ch:=Z_ j;have cm:=Z_ (j.jm.Jb j.Di U.o E.uri (by have h:E.uri.size<=140737488355328:=bf.o.uri;omega));obtain⟨⟨x0,x1,x2,x3,x4,x5⟩,y0,y1,y2,y3,y4,y5⟩:=j.jm.cells;obtain⟨p0,p1,p2,p3,p4,p5,p6⟩:=kB j.jm.tq;have g0:=Z_ (LI.mono (e0.o.I9 E.uri) L_ L_ (by rw[eC.o];omega):LX Es (k+1) (5*k+4) (280000+78*(k+1)+kt Es (k+1)) _);generalize zl J E.uri=R at*;obtain⟨J8,er⟩:=R;clear o0 o1 o2 o3 o4 o5 o6 cf I j cg;go_wp2_with fail;refine cm.o.mono ?_;rintro e w9 ⟨A9,n9,c9,Y,Z,ad,ak,av,a1,a2,ba,bb,rfl,cp,HB9⟩;have bO:=Z_ (ch.o.go HB9.o);have K:x_ (FG W _ Es k px p F8 H8 S8 G J8 (a_ A9 n9 c9) (a_ Y Z ad) (a_ ak av a1) (a_ a2 ba bb) bo 2 (λx=>#[x,.int d_ n,.string E.uri,.int d_ E.bu,a_ A' E.aI.length c',a_ Ak M.length ck])):=Z_ (LX.sw (bO.o.store bB.o cp.o rfl) g0.o HK.o.2);clear x0 x1 x2 x3 x4 x5 y0 y1 y2 y3 y4 y5 p0 p1 p2 p3 p4 p5 p6 cm ch cp;obtain⟨⟨x0,x1,x2,x3,x4,x5⟩,y0,y1,y2,y3,y4,y5⟩:=bO.o.jm.cells;go_wp2;go_meet;exact⟨er,2,F8,H8,S8,J8,_,_,_,_,rfl,rfl,K⟩
   by_cases h3:dK=3
   ·subst h3
    have cf:=Z_ (I.o.Jh U.o);go_wp2_with fail;refine cf.o.mono ?_;rintro e w8 ⟨rfl,cg⟩;obtain⟨F8,H8,S8,j,-⟩:=cg.o;have ch:=Z_ j;have cm:=Z_ (j.jm.Jc j.Di U.o);obtain⟨⟨x0,x1,x2,x3,x4,x5⟩,y0,y1,y2,y3,y4,y5⟩:=j.jm.cells;obtain⟨p0,p1,p2,p3,p4,p5,p6⟩:=kB j.jm.tq;have g0:=Z_ (LI.mono e0.o.Jh L_ L_ (by rw[eC.o];omega):LX Es (k+1) (5*k+4) (280000+78*(k+1)+kt Es (k+1)) _);generalize CF J=R at*;obtain⟨J8,er⟩:=R;clear o0 o1 o2 o3 o4 o5 o6 cf I j cg;go_wp2_with fail;refine cm.o.mono ?_;rintro e w9 ⟨A9,n9,c9,Y,Z,ad,ak,av,a1,a2,ba,bb,rfl,cp,HB9⟩;have bO:=Z_ (ch.o.go HB9.o);have K:x_ (FG W _ Es k px p F8 H8 S8 G J8 (a_ A9 n9 c9) (a_ Y Z ad) (a_ ak av a1) (a_ a2 ba bb) bo 3 (λx=>#[x,.int d_ n,.string E.uri,.int d_ E.bu,a_ A' E.aI.length c',a_ Ak M.length ck])):=Z_ (LX.sw (bO.o.store bB.o cp.o rfl) g0.o HK.o.2);clear x0 x1 x2 x3 x4 x5 y0 y1 y2 y3 y4 y5 p0 p1 p2 p3 p4 p5 p6 cm ch cp;obtain⟨⟨x0,x1,x2,x3,x4,x5⟩,y0,y1,y2,y3,y4,y5⟩:=bO.o.jm.cells;go_wp2;go_meet;exact⟨er,3,F8,H8,S8,J8,_,_,_,_,rfl,rfl,K⟩
   by_cases h4:dK=4
   ·subst h4
    have cf:=Z_ (I.o.IQ U.o);go_wp2_with fail;refine cf.o.mono ?_;rintro e w8 ⟨rfl,cg⟩;obtain⟨F8,H8,S8,j,-⟩:=cg.o;have ch:=Z_ j;have cm:=Z_ (j.jm.I7 j.Di U.o);obtain⟨⟨x0,x1,x2,x3,x4,x5⟩,y0,y1,y2,y3,y4,y5⟩:=j.jm.cells;obtain⟨p0,p1,p2,p3,p4,p5,p6⟩:=kB j.jm.tq;have py:=e0.o.IQ lk.o HW.o O_ O_;have qh:x_ ((se J).1.st.aa<=9223372036854775807):=Z_ (rn _ U.o.pw);generalize se J=R at*;obtain⟨J8,er⟩:=R;clear o0 o1 o2 o3 o4 o5 o6 cf I j cg;go_wp2_with fail;refine cm.o.mono ?_;rintro e w9 ⟨A9,n9,c9,Y,Z,ad,ak,av,a1,a2,ba,bb,rfl,cp,HB9⟩;have bO:=Z_ (ch.o.go HB9.o);have cd:=Z_ (bO.o.store bB.o cp.o rfl);clear x0 x1 x2 x3 x4 x5 y0 y1 y2 y3 y4 y5 p0 p1 p2 p3 p4 p5 p6 cm ch cp;obtain⟨⟨x0,x1,x2,x3,x4,x5⟩,y0,y1,y2,y3,y4,y5⟩:=bO.o.jm.cells;obtain⟨p0,p1,p2,p3,p4,p5,p6⟩:=kB bO.o.jm.tq;have z1:¬bo=G:=bB.o;have z2:¬G=bo:=λe=>bB.o e.symm
    rcases py with⟨bR,qk⟩|⟨bR,qs⟩
    ·replace bR:er=0:=bR
     subst bR;have K:x_ (FG W _ Es k px p F8 H8 S8 G J8 (a_ A9 n9 c9) (a_ Y Z ad) (a_ ak av a1) (a_ a2 ba bb) bo 4 (λx=>#[x,.int d_ n,.string E.uri,.int d_ E.bu,a_ A' E.aI.length c',a_ Ak M.length ck])):=Z_ (LX.sw cd.o (LI.mono qk L_ L_ (by rw[eC.o];omega)) HK.o.2);clear qk;go_wp2;go_meet;exact⟨0,4,F8,H8,S8,J8,_,_,_,_,rfl,rfl,K⟩
    replace bR:er=13:=bR;subst bR;have K:x_ (FG W _ Es k px p F8 H8 S8 G J8 (a_ A9 n9 c9) (a_ Y Z ad) (a_ ak av a1) (a_ a2 ba bb) bo 5 (λx=>#[x,.int d_ n,.string E.uri,.int d_ E.bu,a_ A' E.aI.length c',a_ Ak M.length ck])):=Z_ ⟨cd.o.GN bB.o (.int d_ 5),qs.mono L_ L_ (by rw[eC.o];omega),qh.o,λh=>absurd rfl h⟩;clear qs;go_wp2;go_meet;exact⟨13,5,F8,H8,S8,J8,_,_,_,_,rfl,rfl,K⟩
   have n1:(dK==1)=false:=by simpa using h1
   have n2:(dK==2)=false:=by simpa using h2
   have n3:(dK==3)=false:=by simpa using h3
   have n4:(dK==4)=false:=by simpa using h4
   have K:x_ (FG W D Es k px p F H S G J v bv rv lv bo dK (λx=>#[x,.int d_ n,.string E.uri,.int d_ E.bu,a_ A' E.aI.length c',a_ Ak M.length ck])):=Z_ (LX.sw I.o (LI.mono e0.o (Nat.le_succ k) O_ (by rw[eC.o];omega)) HK.o.2);clear h1 h2 h3 h4;go_wp2;go_meet;exact⟨0,dK,F,H,S,J,v,bv,rv,lv,rfl,rfl,K⟩
  obtain⟨er,V,F1,H1,S1,J1,v1,e4,e5,e6,rfl,rfl,K⟩:=hcut;obtain⟨W1,rfl⟩:=N_ (wc);have bR:(er !=er)=false:=by simp
  clear o0 o1 o2 o3 o4 o5 o6 I e0 U;have e7:x_ (JX W W1 px p J1 F1 H1 S1 G J1 v1 e4 e5 e6 bo #[.int d_ V,.int d_ n,.string E.uri,.int d_ E.bu,a_ A' E.aI.length c',a_ Ak M.length ck] 81):=Z_ K.o.jx;have e8:=Z_ K.o.fw;have q7:=Z_ K.o.pw;have g4:=Z_ K.o.li;clear K;obtain⟨o0,o1,o2,o3,o4,o5,o6⟩:=kB e7.o.jm.tq;have hM:x_ ((280000+78*(k+1)+kt Es (k+1))<=600000):=Z_ (by have:=nP.o;omega)
  go_upto_if 134 with fail
  go_cut [5,6,15,16,17,18]from 128 to 180 (λfv xv _ _ _ _ wx=>∃(p2 b0:Nat) (F2 H2 S2:Nat->Prop) (t:Xn) (v2 cx rX r7:Value),fv=i_ (c_ ⟨p2,0,b_⟩)/\xv=i_ (c_ ⟨b0,0,b_⟩)/\x_ (JX W wx b0 p2 t F2 H2 S2 G t v2 cx rX r7 bo #[.int d_ V,.int d_ n,.string E.uri,.int d_ E.bu,a_ A' E.aI.length c',a_ Ak M.length ck] 81)/\x_ (LX Es (k+1) (5*(k+1)) (280000+78*(k+1)+kt Es (k+1)) t))
  case first=>
   by_cases h5:V=5
   case neg=>
    have n5:(V==5)=false:=by simpa using h5
    have HL:=Z_ (LI.mono (g4.o h5) L_ O_ L_:LX Es (k+1) (5*(k+1)) (280000+78*(k+1)+kt Es (k+1)) J1);clear h5;go_wp2;go_meet;exact⟨p,px,F1,H1,S1,J1,v1,e4,e5,e6,rfl,rfl,e7,HL⟩
   subst h5;clear g4;have x7:bo<W1:=e7.o.jm.lt.2;have sf:x_ (H_ h_ 26 #[a_ Ak M.length ck] W1.drew λe w'=>∃A c,e=k_ (a_ A M.length c)/\x_ (bw w' w' (a_ A M.length c) (ints M))/\x_ (JX W w' px p J1 F1 H1 S1 G J1 v1 e4 e5 e6 bo #[.int d_ 5,.int d_ n,.string E.uri,.int d_ E.bu,a_ A' E.aI.length c',a_ Ak M.length ck] 81)/\w'.cell? ⟨bo,1,b_⟩=c_ (.int d_ n)/\bo<w'.heap.size):=Z_ (by
    have h0:=e7.o.go ((JG _ W1).drew);refine(uc _ M W W1.drew (bf.o.ints.below h0.jm.below) h0.jm.below.size bf.o.EB).mono ?_;rintro e w' ⟨u,rfl,hu,hb⟩;obtain⟨A,c,rfl⟩:=hu.form;rw[ew]at hu⊢;have h1:=h0.go hb;exact⟨A,c,rfl,Z_ (Own.dH hu),Z_ h1,(kB h1.jm.tq).2.1,h1.jm.lt.2⟩)
   go_upto_region 40 with fail
   go_cut [5]from 135 to 141 (λfv wx=>∃(p2:Nat) (F2:Nat->Prop),fv=i_ (c_ ⟨p2,0,b_⟩)/\x_ (JC W wx p2 (ic J1.st M n) F2 G J1 v1 e4 e5 e6 bo #[.int d_ 5,.int d_ n,.string E.uri,.int d_ E.bu,a_ A' E.aI.length c',a_ Ak M.length ck] 81))
   case first=>
    have x8:x_ (∀w g5 g6,bw w w (a_ g5 M.length g6) (ints M)->JX W w px p J1 F1 H1 S1 G J1 v1 e4 e5 e6 bo #[.int d_ 5,.int d_ n,.string E.uri,.int d_ E.bu,a_ A' E.aI.length c',a_ Ak M.length ck] 81->H_ h_ 25 #[i_ (c_ ⟨p,0,b_⟩),a_ g5 M.length g6,.int d_ n] w λe w'=>∃hN l9,e=k_ (i_ (c_ ⟨hN,0,b_⟩))/\x_ (JC W w' hN (ic J1.st M n) l9 G J1 v1 e4 e5 e6 bo #[.int d_ 5,.int d_ n,.string E.uri,.int d_ E.bu,a_ A' E.aI.length c',a_ Ak M.length ck] 81)):=Z_ λw g5 g6 hs hj=>
     have hK:=hj.xh.xf.Js
     (Bj w p J1.st F1 hK (by have:=e8.o.calm.files;omega) e8.o.calm.short (λf hf=>by have:=e8.o.calm.data f hf;have:=hM.o;omega) _ M hs n).mono λe w' ⟨p',F',h1,h2,h3,h4⟩=>⟨p',F',h1,Z_ (hj.qJ h2 h3 h4)⟩
    go_region_with (first
     |(go_at_call 26;refine sf.o.mono ?_;rintro e cc ⟨g5,g6,rfl,en,bg,y1,y2⟩)
     |(go_at_call 25;refine(x8.o _ _ _ en.o bg.o).mono ?_;rintro e bN ⟨hN,l9,rfl,ct⟩))
    all_goals(
     go_wp2_with fail;go_meet;exact⟨hN,l9,rfl,ct⟩)
   obtain⟨p2,F2,rfl,ct⟩:=hcut;obtain⟨W3,rfl⟩:=N_ (wc);clear o0 o1 o2 o3 o4 o5 o6 x7 sf e7;have g7:n<=9223372036854775807:=bf.o.num;have g8:=Z_ g7;have sl:=Z_ (e8.o.qJ M n);have hO:x_ (Calm (ic J1.st M n).files 400 600000):=Z_ (sl.o.calm.mono O_ hM.o);have h9:x_ (Calm J1.st.files 400 600000):=Z_ (e8.o.calm.mono O_ hM.o);have hP:x_ (∀w,n_ W W w->bw w w (a_ Ak M.length ck) (ints M)):=Z_ λw hw=>(bf.o.ints.below hw).more hw.size
   obtain⟨Ee,res,hr⟩:∃Ee res,aW (ic J1.st M n)=(Ee,res):=⟨_,_,rfl⟩;have HR:=Z_ hr;cases res with
   |error e2=>
    have cB:=jT W3 p2 (ic J1.st M n) F2 ct.o.fs hO.o O_ O_ g8.o (λx hx=>by rw[HR.o]at hx;cases hx);rw[hr]at cB;have ha:=Z_ cB;have ss:=yH HR.o;have b1:(e2 !=e2)=false:=by simp
    have b2:(e2==e2)=true:=by simp
    have b3:(e2 !=0)=true:=by simpa using ss
    clear cB hr ss g7;go_wp2_with fail;refine ha.o.mono ?_;rintro e w4 bt;obtain⟨rfl,F4,bj⟩:=ct.o.failed bt;have hd:=Z_ bj;obtain⟨o0,o1,o2,o3,o4,o5,o6⟩:=kB bj.jm.tq;obtain⟨⟨x0,x1,x2,x3,x4,x5⟩,-⟩:=bj.jm.cells;have hh:=Z_ (bj.jm.DW bj.fs.lt h9.o (hP.o w4 bj.jm.below) n);clear bj bt ha ct;go_wp2_with fail;refine hh.o.mono ?_;rintro e w5 ⟨u5,rfl,ht,HB5⟩;have bk:=Z_ (hd.o.go HB5.o);have b5:=Z_ (bk.o.jm.GJ g8.o hO.o HR.o ht.o);clear o0 o1 o2 o3 o4 o5 o6 x0 x1 x2 x3 x4 x5 hh ht hd;go_wp2_with fail;refine b5.o.mono ?_;rintro e O ⟨A6,k6,c6,gen,Ao,Ap,As,Au,Av,Ax,AE,AF,AL,rfl,HB6⟩;have sv:x_ (n_ W W O):=Z_ ((bk.o.go HB6.o).jm.below);clear b5 bk;go_wp2;go_ret;exact⟨rfl,tZ sv.o sv.o.size _⟩
   |ok x=>
    obtain⟨g2,ps,ls⟩:=x;obtain⟨x9,yn,hlen,mb,ih,sX⟩:=sl.o.ps g8.o HR.o;have hQ:x_ (ps.length+ls.length<=100000/\∀l∈ps++ls,l.length<=65536):=Z_ ⟨by omega,hlen⟩;have j0:=Z_ ih;have s6:x_ (LX Es (k+1) (5*(k+1)) (280000+78*(k+1)+kt Es (k+1)) ⟨Ee,g2,ps,ls,mb⟩):=Z_ (LI.mono sX L_ O_ L_);have cB:=jT W3 p2 (ic J1.st M n) F2 ct.o.fs hO.o O_ O_ g8.o (λx hx=>by rw[HR.o]at hx;cases hx;exact⟨hQ.o.1,λl hl=>by have:=hQ.o.2 l hl;omega⟩);rw[hr]at cB;have ha:=Z_ cB;clear cB hr g7 x9 yn hlen ih sX;go_wp2_with fail;refine ha.o.mono ?_;rintro e w4 bt;obtain⟨ys,F4,H4,S4,rfl,cE⟩:=ct.o.opened bt j0.o;have hd:=Z_ cE;obtain⟨o0,o1,o2,o3,o4,o5,o6⟩:=kB cE.jm.tq;obtain⟨⟨x0,x1,x2,x3,x4,x5⟩,-⟩:=cE.jm.cells;have hh:=Z_ (cE.jm.DW cE.Di h9.o (hP.o w4 cE.jm.below) n);clear cE bt ha ct;go_wp2_with fail;refine hh.o.mono ?_;rintro e w5 ⟨u5,rfl,ht,HB5⟩;have bk:=Z_ (hd.o.go HB5.o);have b5:=Z_ (bk.o.jm.Ic bk.o.Di g8.o hO.o HR.o j0.o hQ.o.1 hQ.o.2 ht.o);clear o0 o1 o2 o3 o4 o5 o6 x0 x1 x2 x3 x4 x5 hh ht hd;go_wp2_with fail;refine b5.o.mono ?_;rintro e O ⟨A9,n9,c9,Y,Z,ad,ak,av,a1,a2,ba,bb,rfl,s7,HB6⟩;have hR:=Z_ (bk.o.go HB6.o);obtain⟨W8,hT⟩:=N_ (O.alloc (f_ #[.int d_ Ee.aa,a_ A9 n9 c9,.int d_ (g2:Nat),a_ Y Z ad,a_ ak av a1,a_ a2 ba bb] 47));have b6:n_ O O W8:=by rw[hT];exact ah _ _
    have ml:=hR.o.go b6;have s8:W8.heap[O.heap.size]?=c_ (f_ #[.int d_ Ee.aa,a_ A9 n9 c9,.int d_ (g2:Nat),a_ Y Z ad,a_ ak av a1,a_ a2 ba bb] 47 (0,0)):=by rw[hT];exact r_ _ _
    have mv:=Z_ (ml.store bB.o (m':=⟨Ee,g2,ps,ls,mb⟩) (s7.o.ae λb hb=>⟨hR.o.jm.wO hR.o.Di b6 b (.inl hb),b6.block b hb.1⟩) rfl);obtain⟨⟨x0,x1,x2,x3,x4,x5⟩,y0,y1,y2,y3,y4,y5⟩:=ml.jm.cells;obtain⟨s0,s1,s2,s3,s4,s5,-⟩:=kB s8;clear b5 s7 b6 ml s8 bk hR;go_upto_region 47 with fail;rw[<-hT];clear hT;go_wp2;go_meet;exact⟨p2,ys,F4,H4,S4,⟨Ee,g2,ps,ls,mb⟩,_,_,_,_,rfl,rfl,mv,s6⟩
  obtain⟨p2,b0,F2,H2,S2,t,v2,cx,rX,r7,rfl,rfl,cu,ta⟩:=hcut;obtain⟨W3,rfl⟩:=N_ (wc);obtain⟨⟨e9,fi,rfl⟩,cF,c7,rfl⟩:=cu.o.jm.ref.H9;have U:x_ (CJ t):=Z_ (ta.o.sm lk.o HW.o O_ O_ hM.o);have e3:x_ (E.uri.size<=9223372036854775807):=Z_ (by have h:E.uri.size<=140737488355328:=bf.o.uri;omega);have m0:=Z_ (cu.o.xh.find U.o.es.2.1 E.uri e3.o);unfold nS eV at m0;clear o0 o1 o2 o3 o4 o5 o6 bR e7 e8 q7 g4;obtain⟨o0,o1,o2,o3,o4,o5,o6⟩:=kB cu.o.jm.tq;have y6:x_ ((bZ t.es E.uri.data.toList).uri.size<=9223372036854775807):=Z_ (by have:=uo (λe he=>(U.o.es.2.2 e he).1) E.uri.data.toList;omega);have hv:x_ (∀w,JX W w b0 p2 t F2 H2 S2 G t v2 cx (a_ e9 t.rest.length fi) (a_ cF t.es.length c7) bo #[.int d_ V,.int d_ n,.string E.uri,.int d_ E.bu,a_ A' E.aI.length c',a_ Ak M.length ck] 81->H_ h_ 37 #[.agg #[.int d_ t.st.aa,v2,.int d_ (t.g:Nat),cx,a_ e9 t.rest.length fi,a_ cF t.es.length c7],.string E.uri] w λe w'=>∃A2 c2,e=k_ (.tuple #[eV (bZ t.es E.uri.data.toList) A2 c2,.bool (aj aB E.uri.data.toList t.es).isSome])/\x_ (bW (·<w.heap.size) w' (eV (bZ t.es E.uri.data.toList) A2 c2) (bZ t.es E.uri.data.toList))/\x_ (n_ w w w')):=Z_ λw hw=>hw.jm.H7 U.o E.uri e3.o
  unfold eV at hv;generalize bZ t.es E.uri.data.toList=X at*;generalize(aj aB E.uri.data.toList t.es).isSome=fb at*;go_wp2_with fail;refine m0.o.mono ?_;rintro e w4 ⟨A4,c4,rfl,tb,eA⟩;obtain⟨W5,fr⟩:=N_ (w4.alloc (f_ #[.string X.uri,.int d_ X.bu,a_ A4 X.aI.length c4] 55));have hy:n_ w4 w4 W5:=by rw[fr];exact ah _ _
  have tk:W5.heap[w4.heap.size]?=c_ (f_ #[.string X.uri,.int d_ X.bu,a_ A4 X.aI.length c4] 55 (0,0)):=by rw[fr];exact r_ _ _
  have nv:W5.heap.size=w4.heap.size+1:=by rw[fr];simp
  have hz:=cu.o.go (eA.trans (hy.mono eA.size));have bk:=Z_ hz;have tm:=Z_ tk;have gi:x_ (bA (·<W5.heap.size) W5 (a_ A4 X.aI.length c4) X.aI):=Z_ (tb.ae λg hg=>⟨by have:=hg.2;show g<W5;omega,hy.block g hg.2⟩);have tn:=Z_ (hv.o W5 hz);obtain⟨⟨x0,x1,x2,x3,x4,x5⟩,-⟩:=hz.jm.cells;obtain⟨p0,p1,tp,p3,p4,p5,p6⟩:=kB hz.jm.tq;clear o0 o1 o2 o3 o4 o5 o6 tb eA hy tk hz m0 cu hv;rw[fr]at x0 x1 x2 x3 x4 x5 p0 p1 tp p3 p4 p5 p6;go_wp2_with fail;rw[<-fr];clear fr x0 x1 x2 x3 x4 x5 p0 p1 tp p3 p4 p5 p6;refine tn.o.mono ?_;rintro e O ⟨A6,c6,rfl,uk,HB6⟩;obtain⟨D,bx⟩:=N_ (O.alloc (f_ #[.string X.uri,.int d_ X.bu,a_ A6 X.aI.length c6] 55));have hA:n_ O O D:=by rw[bx];exact ah _ _
  have u4:=HB6.o.size;have y7:D.heap.size=O.heap.size+1:=by rw[bx];simp
  have u6:D.heap[O.heap.size]?=c_ (f_ #[.string X.uri,.int d_ X.bu,a_ A6 X.aI.length c6] 55 (0,0)):=by rw[bx];exact r_ _ _
  have eo:n_ W5 W5 D:=HB6.o.trans (hA.mono u4);have fz:=Z_ (bk.o.go eo);have j1:=(eo.block w4 O_).trans tm.o;have j2:x_ (bA (·<D.heap.size) D (a_ A4 X.aI.length c4) X.aI):=Z_ (gi.o.ae λg (hg:g<W5)=>⟨by show g<D;omega,eo.block g hg⟩);have j3:x_ (bA (·<D.heap.size) D (a_ A6 X.aI.length c6) X.aI):=Z_ (by
   obtain⟨A1,c1,e,-,he⟩:=uk.o;unfold eV at e;injection e with e;have e:=J7 (·[2]?) e;simp at e;obtain⟨rfl,rfl⟩:=e;exact he.ae λg (hg:g<W5)=>⟨by show g<D;omega,hA.block g O_⟩)
  have u7:x_ (∀w,n_ D D w->(w.cell? ⟨G,0,b_⟩=c_ (.int d_ t.st.aa)/\w.cell? ⟨G,1,b_⟩=c_ v2/\w.cell? ⟨G,2,b_⟩=c_ (.int d_ (t.g:Nat))/\w.cell? ⟨G,3,b_⟩=c_ cx/\w.cell? ⟨G,4,b_⟩=c_ (a_ e9 t.rest.length fi)/\w.cell? ⟨G,5,b_⟩=c_ (a_ cF t.es.length c7))):=Z_ λw hw=>(fz.o.go hw).jm.cells.1
  have j4:x_ (∀W8 b1 b2,n_ D D W8->W8.heap[b1]?=c_ (f_ #[.string X.uri,.int d_ X.bu,a_ A4 X.aI.length c4] 55 (0,0))->W8.heap[b2]?=c_ (f_ #[.string X.uri,.int d_ X.bu,a_ A6 X.aI.length c6] 55 (0,0))->H_ h_ 17 #[a_ (c_ ⟨b1,0,b_⟩) 1 1,a_ (c_ ⟨b2,0,b_⟩) 1 1] W8 λe w'=>e=k_ (.bool true)/\x_ (n_ D D w')):=Z_ λW8 b1 b2 h1 h2 h3=>
   (xu y6.o j2.o j3.o W8 b1 b2 h1 h2 h3).mono λe w' ⟨h4,h5⟩=>⟨h4,Z_ (h1.trans (h5.o.mono h1.size))⟩
  have j6:x_ (∀w,n_ D D w->H_ h_ 18 #[i_ (c_ ⟨b0,0,b_⟩)] w λe w'=>∃A c,e=k_ (a_ A t.es.length c)/\x_ (aS (·<w'.heap.size) w' (a_ A t.es.length c) t.es)/\x_ (n_ D D w')):=Z_ λw hw=>
   ((fz.o.go hw).xh.entries U.o.es.2.1 (by have:=U.o.es.1;omega)).mono λe w' ⟨A,c,h1,h2,h3⟩=>⟨A,c,h1,Z_ (h2.ae λg hg=>⟨hg.2,rfl⟩),Z_ (hw.trans (h3.mono hw.size))⟩
  have kf:x_ (∀w u,n_ D D w->aS (·<w.heap.size) w u t.es->H_ h_ 17 #[u,a_ cF t.es.length c7] w λe w'=>e=k_ (.bool true)/\x_ (n_ D D w')):=Z_ λw u hw hu=>
   (kg t.es t.es u _ w hu ((fz.o.go hw).jm.ref.l.ae λb hb=>⟨hb.1,rfl⟩)).mono λe w' ⟨h1,h2⟩=>⟨by rw[h1,mB rfl],Z_ (hw.trans (h2.mono hw.size))⟩
  have vj:x_ (∀w,n_ D D w->H_ h_ 29 #[i_ (c_ ⟨b0,0,b_⟩)] w λe w'=>e=k_ (.int d_ (t.rest.length:Nat))/\x_ (n_ D D w')):=Z_ λw hw=>
   (tf w b0 p2 t.g t.st t.base t.rest t.es F2 H2 S2 (fz.o.go hw).xh.xf).mono λe w' ⟨h1,n,h2⟩=>⟨h1,Z_ (by rw[h2];exact hw.trans ((below_drewN (JG _ w) n).mono hw.size))⟩
  have y8:((t.rest.length:Int) !=(t.rest.length:Int))=false:=by simp
  have y9:(fb !=fb)=false:=by simp
  have HN57:=Z_ j1;have HN7:=Z_ u6;clear j1 u6 eo hA tn uk gi tm bk;go_upto_region 51 with fail;rw[<-bx];clear bx;obtain⟨s0,s1,s2⟩:=aR HN57.o;obtain⟨t0,t1,t2⟩:=aR HN7.o
  go_cut [224]from 181 to 224 (λbv wx=>bv=.bool false/\x_ (n_ D D wx))
  case first=>
   as_aux_lemma=>
   have hP:x_ (∀W',n_ D D W'->(W'.cell? ⟨w4,0,b_⟩=c_ (.string X.uri)/\W'.cell? ⟨w4,1,b_⟩=c_ (.int d_ X.bu)/\W'.cell? ⟨w4,2,b_⟩=c_ (a_ A4 X.aI.length c4))/\(W'.cell? ⟨O,0,b_⟩=c_ (.string X.uri)/\W'.cell? ⟨O,1,b_⟩=c_ (.int d_ X.bu)/\W'.cell? ⟨O,2,b_⟩=c_ (a_ A6 X.aI.length c6))/\W'.cell? ⟨G,4,b_⟩=c_ (a_ e9 t.rest.length fi)/\W'.cell? ⟨G,5,b_⟩=c_ (a_ cF t.es.length c7)):=Z_ λW' hw=>
    ⟨aR ((hw.block _ O_).trans HN57.o),aR ((hw.block _ O_).trans HN7.o),(u7.o W' hw).2.2.2.2⟩
   clear y7 u4 nv
   go_region_held_law (λW':World=>(W'.cell? ⟨w4,0,b_⟩=c_ (.string X.uri)/\W'.cell? ⟨w4,1,b_⟩=c_ (.int d_ X.bu)/\W'.cell? ⟨w4,2,b_⟩=c_ (a_ A4 X.aI.length c4))/\(W'.cell? ⟨O,0,b_⟩=c_ (.string X.uri)/\W'.cell? ⟨O,1,b_⟩=c_ (.int d_ X.bu)/\W'.cell? ⟨O,2,b_⟩=c_ (a_ A6 X.aI.length c6))/\W'.cell? ⟨G,4,b_⟩=c_ (a_ e9 t.rest.length fi)/\W'.cell? ⟨G,5,b_⟩=c_ (a_ cF t.es.length c7))
    (exact hP.o _ zE)
    (first
    |(go_at_call 17;(with_reducible refine(j4.o _ _ _ zE Jm Jm).mono ?_);rintro e w8 ⟨rfl,HB8⟩)
    |(go_at_call 18;(with_reducible refine(j6.o _ zE).mono ?_);rintro e w9 ⟨A9,c9,rfl,zs,HB9⟩)
    |(go_at_call 17;(with_reducible refine(kf.o _ _ zE zs.o).mono ?_);rintro e cc ⟨rfl,HB10⟩)
    |(go_at_call 29;(with_reducible refine(vj.o _ zE).mono ?_);rintro e bN ⟨rfl,HB11⟩)
    |fail)
   all_goals(
    go_wp2_with fail;go_meet;exact⟨rfl,Z_ zE⟩)
  obtain⟨rfl,HB8⟩:=hcut;obtain⟨W8,rfl⟩:=N_ (wc);have hB:=Z_ (fz.o.go HB8.o);clear s0 s1 s2 t0 t1 t2 y8 y9 j4 j6 kf vj fz u7 HN57 HN7 j2 j3;obtain⟨o0,o1,o2,o3,o4,o5,o6⟩:=kB hB.o.jm.tq;have cv:=Z_ (mN E l3.o _ W8 ((gp.o W8 hB.o.jm.below).ae λb (hb:b<W)=>⟨Kc hb hB.o.jm.below.size,rfl⟩));unfold eV at cv;go_wp2_with fail;refine cv.o.mono ?_;rintro e w9 ⟨A9,c9,rfl,vk,vx⟩;have cu:=Z_ (hB.o.go vx);have v7:=Z_ ((j7 E (.agg #[.string E.uri,.int d_ E.bu,a_ A9 E.aI.length c9]) w9 ⟨A9,c9,rfl,e3.o,vk.ae λg hg=>⟨hg.2,rfl⟩⟩).mono λe w' h=>gm.dH h);clear vk vx o0 o1 o2 o3 o4 o5 o6 cv hB;go_wp2_with fail;refine v7.o.mono ?_;rintro e cc ⟨g5,g6,rfl,en,HB10⟩;have bg:=Z_ (cu.o.go HB10.o);have m1:=Z_ ((kS E bf.o.ok _ cc ((gp.o cc bg.o.jm.below).ae λb (hb:b<W)=>⟨Kc hb bg.o.jm.below.size,rfl⟩)).mono λe w' h=>gm.dH h);unfold eV at m1;obtain⟨o0,o1,o2,o3,o4,o5,o6⟩:=kB bg.o.jm.tq;clear v7 cu;go_wp2_with fail;refine m1.o.mono ?_;rintro e bN ⟨A3,A5,rfl,kh,HB11⟩;have km:=Z_ (bg.o.go HB11.o);have m2:=Z_ (jg _ _ _ _ _ bN ((en.o.below HB11.o).more HB11.o.size) kh.o);rw[JR rfl]at m2;generalize recC E=ec at*;have A7:(ec !=ec)=false:=by simp
  clear o0 o1 o2 o3 o4 o5 o6 m1 bg;go_wp2_with fail;refine m2.o.mono ?_;rintro e Bn ⟨rfl,n12,rfl⟩;have mv:x_ (IE W (bN.drewN n12) Es (k+1) b0 p2 F2 H2 S2 G t v2 cx (a_ e9 t.rest.length fi) (a_ cF t.es.length c7)):=Z_ (by
   have h:=km.o.go (below_drewN (JG bN bN) n12);exact⟨⟨h.xh,h.jm.head,h.sn⟩,ta.o⟩)
  have z6:=HK.o.1;clear km m2 en kh;go_wp2;go_roundw
  case rel=>exact⟨k+1,p2,b0,F2,H2,S2,t,v2,cx,_,_,by omega,rfl,rfl,by go_num,mv⟩
  simp[A_];omega
 have df:=Z_ HJ.o.jx.jm.below;go_wp2;go_ret;exact⟨rfl,df.o⟩
