import Derived.Deep.RegionWith
import Derived.Deep.DeepCutAuto
import Derived.BigRegion
import Derived.Laws.BitsLemmas
import Derived.Test.YtaalbcfpacpgfaaGreatZdM5
import Derived.Test.YtaalbcfpacpgfaaGreatZdJF
import Derived.Test.YtaalbcfpacpgfaaGreatZdJE
set_option linter.all false
set_option maxHeartbeats 16000000
set_option maxRecDepth 100000
open Bool renaming false->o_
open Go renaming Calls->H_,Value->m_,World->j_
open Go.Ending renaming returned->k_
open Go.Instr renaming slice->KO
open Go.IntKind renaming i64->d_
open Go.Lib renaming byteCells->l_
open Go.Proofs.Tryz renaming prog->h_
open Go.RowKit renaming Below->n_,Hid->x_
open Go.Value renaming bool->u_,int->e_,slice->a_,tuple->J_
open Go.World renaming setCell->Kd
open Option renaming none->b_,some->c_
open Or renaming inl->Ke
namespace Go.Proofs.YtaalbcfpacpgfaaGreat
open Go.RowKit Go.Lib Go.Vfs Go.Par
structure nR(w:j_)(pow:Int)(v:m_)(W:j_):Prop where
 below:n_ w.heap.size w W
 size:w.heap.size+1<=W.heap.size
 h0:W.heap[w.heap.size]?=c_ (.cells #[e_ d_ pow,v] 33 (0,0))
variable{w W W' w4:j_}{pow:Int}{v u:m_}{S:Nat->Prop}{b:List UInt8}{k m:Nat}{α:Type}{ps:List (List UInt8)}{us:List m_}
theorem nR.start(w:j_)(pow:Int)(v:m_):nR w pow v (w.alloc (.cells #[e_ d_ pow,v] 33)):=⟨ah w _,by simp,r_ w _⟩
theorem nR.go(h:nR w pow v W)(j:n_ W W W'):nR w pow v W':=by
 have D:=h.size;have t:=j.size;exact⟨h.below.trans (j.mono O_),by omega,(j.block _ O_).trans h.h0⟩
theorem nR.cells(h:nR w pow v W):W.cell? ⟨w,0,b_⟩=c_ (e_ d_ pow)/\W.cell? ⟨w,1,b_⟩=c_ v:=by
 have h0:=h.h0;simp[World.cell?,h0]
theorem nR.gu{fs:List af}(hS:∀b,S b->b<w.heap.size)(h:nR w pow v W)(hr:aA S w u fs):aA S W u fs:=hr.ae λb j=>⟨j,h.below.block b (hS b j)⟩
theorem EK{pd:Int}{A:Option Addr}{c:Nat}{fs:List af}{s:List UInt8}{f:af}
  (O:aj af.name s fs=c_ f) (hS:∀b,S b->b<w.heap.size) (h:aA S w (a_ A fs.length c) fs) (W:j_) (J:nR w pd (a_ A fs.length c) W):
  H_ h_ 52 #[.agg #[e_ d_ pd,a_ A fs.length c],.string ⟨s.toArray⟩] W λe j=>∃(i b off:Nat) (D:Option Addr) (G:Nat),e=k_ (e_ d_ (i:Nat))/\A=c_ ⟨b,off,b_⟩/\
   x_ (nR w pd (a_ A fs.length c) j)/\i<fs.length/\
   (j.cell? ⟨w,0,b_⟩=c_ (e_ d_ pd)/\j.cell? ⟨w,1,b_⟩=c_ (a_ A fs.length c))/\
   j.cell? ⟨b,off+i*3,b_⟩=c_ (.string ⟨f.name.toArray⟩)/\j.cell? ⟨b,off+i*3+1,b_⟩=c_ (a_ D f.data.length G)/\j.cell? ⟨b,off+i*3+2,b_⟩=c_ (e_ d_ f.safe)/\x_ (bw j j (a_ D f.data.length G) (l_ f.data)):=by
 refine(lE (λb t=>by have:=hS b t;have:=J.size;omega) (J.gu hS h) O).mono ?_;rintro e j ⟨i,hi,rfl,K,M⟩;have I:=J.go M;obtain⟨b,off,D,G,rfl,t,U,V,X,Y⟩:=kI h hS I.below hi K;have Z:=I.size;refine⟨i,b,off,D,G,rfl,rfl,Z_ I,hi,I.cells,U,V,X,Z_ ?_⟩;have:a8 S j (a_ D f.data.length G) (l_ f.data):=Y.ae λb t=>⟨t,I.below.block b (hS b t)⟩
 exact this.dH λb t=>by have:=hS b t;omega
theorem oC(st:St)(v:m_)(S:Nat->Prop)(w:j_)(hS:∀b,S b->b<w.heap.size)(h:aA S w v st.files)(s:List UInt8)(hs:s.length<=9223372036854775807)(Y:∀f∈st.files,f.data.length<=1000000):
  H_ h_ 97 #[.agg #[e_ d_ st.aa,v],.string ⟨s.toArray⟩] w (kz w (bH st s)):=by
 obtain⟨pow,fs⟩:=st;simp only at h Y⊢;obtain⟨A,c,rfl,hc,hm⟩:=h.form;have H:=Z_ h;clear h;have Z:=Z_ hS;clear hS;have ad:=Z_ Y;clear Y;have U:=nR.start w pow (a_ A fs.length c);have I:=fZ pow _ fs S _ (λb hb=>by have:=Z.o b hb;have:=U.size;omega) (U.gu Z.o H.o) s hs true;have V:=Z_ U;have j:=Z_ I;clear U I;cases X:bH ⟨pow,fs⟩ s with
 |error er=>
  obtain⟨D,J⟩:=mM X;simp only at D;rw[D]at j;clear D X;obtain⟨P,G⟩:=N_ (kz w (.error er));rw[<-G];have HP:=Z_ G;clear G;go_enter Tryz.func97,Tryz.ntmps97;go_wp2_with fail;refine j.o.mono ?_;rintro e w2 ⟨rfl,t⟩;have K:=Z_ (V.o.go t);clear t j V;obtain⟨x0,x1⟩:=K.o.cells;go_wp2;try go_ret2
  rw[HP.o];exact⟨K.o.below,rfl⟩
 |ok f=>
  obtain⟨D,J⟩:=qB X;simp only at D J;rw[D]at j;have ak:=Z_ (ad.o f (jA J));have M:=Z_ (EK (pd:=pow) J Z.o H.o);clear D J X;obtain⟨P,G⟩:=N_ (kz w (.ok f));rw[<-G];have HP:=Z_ G;clear G;go_enter Tryz.func97,Tryz.ntmps97;go_wp2_with fail;refine j.o.mono ?_;rintro e w2 ⟨rfl,t⟩;have K:=Z_ (V.o.go t);obtain⟨x0,x1⟩:=K.o.cells;clear t j V;have av:=Z_ (M.o _ (K.o.go ((JG _ w2).drew)));clear M;go_upto_region 4 with fail;go_region_with (first
   |(go_at_call 52;refine av.o.mono ?_;rintro e w5 ⟨i,b,off,Au,cu,rfl,rfl,HB5,hi,⟨y0,y1⟩,g0,g1,g2,G3⟩)
   |(go_at_call 12;refine(cY _ f.data _ _ G3.o L_ ak.o).mono ?_;rintro e w6 ⟨u,rfl,hu,O⟩;obtain⟨A6,c6,a1⟩:=hu.form;subst a1;have HU:=Z_ hu;have HB6:=Z_ O;clear hu O))
  all_goals(
   go_wp2_with fail
   go_ret2
   rw[HP.o];exact⟨(HB5.o.below).trans (HB6.o.mono (by have:=HB5.o.size;omega)),_,rfl,HU.o.base (by have:=HB5.o.size;omega)⟩)
open Go.RowKit Go.Lib Go.Vfs Go.Par Go.Shelf
theorem qa(n:Nat)(hn:n<4294967296)(w:j_):
  H_ h_ 115 #[e_ d_ (n:Nat)] w λe w'=>∃A c,e=k_ (a_ A 4 c)/\Par.Own w' w 5 (a_ A 4 c) (l_ (cy n))/\n_ w w w':=by
 go_enter Tryz.func115,Tryz.ntmps115;go_wp2;go_ret;have j:l_ (cy n)=[e_ .u8 ((n:Int)/16777216),e_ .u8 ((n:Int)/65536%256),e_ .u8 ((n:Int)/256%256),e_ .u8 ((n:Int)%256)]:=by
  unfold l_ cy;simp only[Ks,Lf,oG];have h0:(n:Int)/16777216%256=(n:Int)/16777216:=by omega
  have t:((n/16777216%256:Nat):Int)=(n:Int)/16777216:=by omega
  first
   |(rw[<-h0];rfl)
   |(rw[t];rfl)
   |(simp[h0];done)
 refine⟨c_ ⟨w,0,b_⟩,4,rfl,?_,ah w _⟩;rw[j];exact Par.Own.new w w 5 _ _ rfl L_ (by simp[maxLen])
theorem yJ(i x y:Nat)(hi:i<32)(hx:x%2^i=0)(j:y<2^i)(G:x<4294967296):bits .or d_ (x:Int) (y:Int)=((x+y:Nat):Int):=by
 have t:(2:Nat)^i<=2^32:=LO O_ O_;have D:∀n:Int,0<=n->n<2^32->d_.wrap n=n:=λn h0 h1=>by rw[IntKind.wrap_i64];omega
 rw[(bits_nat d_ 32 (by decide) D x y O_ O_).2,nat_join i x y hx j]
theorem I5(j t D G:Nat)(h0:j<256)(h1:t<256)(h2:D<256)(I:G<256):
  bits .or d_ (bits .or d_ (bits .or d_ ((j:Int)*16777216) ((t:Int)*65536)) ((D:Int)*256)) (G:Int)=((j*16777216+t*65536+D*256+G:Nat):Int):=by
 rw[show(j:Int)*16777216=((j*16777216:Nat):Int) by omega,show(t:Int)*65536=((t*65536:Nat):Int) by omega,show(D:Int)*256=((D*256:Nat):Int) by omega];rw[yJ 24 _ _ O_ O_ O_ O_,yJ 16 _ _ O_ O_ O_ O_,yJ 8 _ _ O_ O_ O_ O_]
theorem p9(v:m_)(l:List UInt8)(B:Nat)(w:j_)(t:bw w B v (l_ l))(hl:4<=l.length):
  H_ h_ 128 #[v] w λe w'=>e=k_ (e_ d_ (cj l:Nat))/\∃n,w'=w.drewN n:=by
 obtain⟨A,c,rfl,hc,hm,j⟩:=t.bq;obtain⟨b,off,X,rfl,hb,D,G,I⟩:=j.byte (show 0<l.length by omega);obtain⟨_,_,Y,h1,-,ad,J,K⟩:=j.byte (show 1<l.length by omega);cases h1;obtain⟨_,_,Z,h2,-,ak,M,O⟩:=j.byte (show 2<l.length by omega);cases h2;obtain⟨_,_,x3,h3,-,av,U,V⟩:=j.byte (show 3<l.length by omega);cases h3;clear j t;have g0:0<l.length:=by omega
 have g1:1<l.length:=by omega
 have g2:2<l.length:=by omega
 have g3:3<l.length:=by omega
 simp only[L5]at D;go_enter Tryz.func128,Tryz.ntmps128;go_wp2
 go_quiet (fail)
 go_wp2;go_ret;refine⟨?_,nq,rfl⟩;have e:cj l=X*16777216+Y*65536+Z*256+x3:=by unfold cj;rw[I.o,K.o,O.o,V.o]
 rw[e,<-I5 X Y Z x3 G J M U];rfl
theorem mz(gen:Nat)(hg:gen<4294967296)(v:m_)(p:List UInt8)(w:j_)(h:bw w w v (l_ p))(hp:p.length<=900000):
  H_ h_ 113 #[e_ d_ (gen:Nat),v] w λe w'=>∃A c,e=k_ (a_ A (aw gen p).length c)/\Par.Own w' w 5 (a_ A (aw gen p).length c) (l_ (aw gen p))/\n_ w w w':=by
 obtain⟨A,c,rfl,hc,hm,-⟩:=h.bq;have H:=Z_ h;clear h;obtain⟨N,hN⟩:=N_ (p.length);rw[<-hN]at hc hp H⊢;have HN:=Z_ hN;clear hN;go_enter Tryz.func113,Tryz.ntmps113;go_wp2_with fail;refine(qa gen hg w).mono ?_;rintro e w1 ⟨A1,c1,rfl,bd,bf⟩;have U1:=Z_ bd;have B1:=Z_ bf;clear bd bf;go_wp2_with fail;refine(qa N O_ w1).mono ?_;rintro e w2 ⟨A2,c2,rfl,bg,a1⟩;have I:=U1.o.below a1;have ad:=Own.dH bg;have B2:=Z_ (B1.o.trans (a1.mono B1.o.size));have a2:=B2.o.size;clear bg a1;go_wp2_with (at_builtin;refine aE _ rfl _ _ _ rfl w 5 _ fD _ _ rfl I _ _ _ rfl ad (aZ _) ?c1 ?c2 ?_)
 case c1=>rw[t_,t_];simp[ep]
 case c2=>exact a2
 intro v3 w3 j bj bk;have B3:=Z_ (dW B2.o I bj a2);rw[<-byteCells_append]at j;obtain⟨HD,O⟩:=N_ (cy gen++cy N);rw[<-O]at j;have cf:=Z_ O;have J:x_ (HD.length=8):=Z_ (by rw[O];rfl);obtain⟨A3,c3,bm⟩:=j.form;rw[t_,J.o]at bm;have U3:=Z_ j;have S3:=Z_ (Own.dH j);clear j bj bk I ad O a2;subst bm;go_wp2_with fail;refine(cY _ HD w3 w3 S3.o L_ (by rw[J.o];omega)).mono ?_;rintro e w4 ⟨u4,rfl,U,V⟩;have B4:=Z_ (B3.o.trans (V.mono B3.o.size));have bn:=(H.o.below B4.o).more B4.o.size;obtain⟨A4,c4,bo⟩:=U.form;rw[t_,J.o]at bo;have M:=V.size;have bp:=Z_ V;clear V;subst bo;go_wp2_with (at_builtin;refine aE _ rfl _ _ _ rfl w3 5 _ fD _ _ rfl U _ _ _ rfl bn (aZ _) ?c1 ?c2 ?_)
 case c1=>rw[t_,t_,J.o,<-HN.o];omega
 case c2=>exact M
 intro v5 w5 D bt bx;rw[<-byteCells_append]at D;obtain⟨AL,X⟩:=N_ (HD++p);rw[<-X]at D;have cg:=Z_ X;have bB:=Z_ (bp.o.trans (jE U M bt));have B5:=Z_ (B3.o.trans (bB.o.mono B3.o.size));have U5:=Z_ (U3.o.below bB.o);have ch:x_ (AL.length=8+N):=Z_ (by rw[X,p_,J.o,HN.o]);obtain⟨A5,c5,bN⟩:=D.form;rw[t_,ch.o]at bN;have S5:=Z_ (Own.dH D);clear D bt bx U bn M X bp U3 S3;subst bN;have bO:=D5 _ AL w5 w5 S5.o;have ck:=qL AL;have cl:x_ (aw gen p=HD++cy (mQ AL)++p):=Z_ (by unfold aw;rw[cg.o,cf.o,HN.o]);generalize mQ AL=C at*;go_wp2_with fail;refine bO.mono ?_;clear bO;rintro e w6 ⟨rfl,n6,bR⟩;have b0:x_ (n_ w5 w5 w6):=Z_ (by rw[bR];exact below_drewN B_ n6);have B6:=Z_ (B5.o.trans (b0.o.mono B5.o.size));have U6:=Z_ (U5.o.below b0.o);clear bR S5;go_wp2_with fail;refine(qa C ck w6).mono ?_;rintro e w7 ⟨A7,c7,rfl,b1,ba⟩;have K:=U6.o.below ba;have ak:=Own.dH b1;have B7:=Z_ (B6.o.trans (ba.mono B6.o.size));have bb:=B7.o.size;clear b1 ba U5 U6;go_wp2_with (at_builtin;refine aE _ rfl _ _ _ rfl w 5 _ fD _ _ rfl K _ _ _ rfl ak (aZ _) ?c1 ?c2 ?_)
 case c1=>rw[t_,t_,J.o];simp[ep]
 case c2=>exact bb
 intro v8 w8 t b2 b3;have B8:=Z_ (dW B7.o K b2 bb);rw[<-byteCells_append]at t;obtain⟨OU,Y⟩:=N_ (HD++cy C);rw[<-Y]at t;have b5:x_ (OU.length=12):=Z_ (by rw[Y,p_,J.o];rfl);have cm:=Z_ Y;have Z:=B8.o.size;have av:=(H.o.below B8.o).more Z;obtain⟨A8,c8,b6⟩:=t.form;rw[t_,b5.o]at b6;clear b2 b3 K ak bb Y;subst b6;go_wp2_with (at_builtin;refine aE _ rfl _ _ _ rfl w 5 _ fD _ _ rfl t _ _ _ rfl av (aZ _) ?c1 ?c2 ?_)
 case c1=>rw[t_,t_,b5.o,<-HN.o];omega
 case c2=>exact Z
 intro v9 w9 G cb cc;have B9:=Z_ (dW B8.o t cb Z);rw[<-byteCells_append,cm.o,<-cl.o]at G;obtain⟨A9,c9,cd⟩:=G.form;rw[t_]at cd;have U9:=Z_ G;clear G cb cc t av Z;subst cd;go_wp2;go_ret;exact⟨_,_,rfl,U9.o,B9.o⟩
theorem fI{fn:Func}{t u v x:Tmp}(h:fn.results=#[.tmp t,.tmp u,.tmp v,.tmp x])(tmps:Array m_)(P:Program)(w:j_):
  (results fn tmps).run P w=.ok (J_ #[tmps.getD t undef,tmps.getD u undef,tmps.getD v undef,tmps.getD x undef]) w:=by
 simp[results,h]
theorem EL{a b:Nat}(j:a<4294967296)(t:b<4294967296)(h:cy a=cy b):a=b:=by
 have h1:=iB a j [];have h2:=iB b t [];rw[h,h2]at h1;exact h1.symm
theorem Br{n:Nat}(hn:cj (b.drop 4)=n)(X:12+n<=b.length):aw (cj b) ((b.drop 12).take n)=b.take (12+n)↔mQ (b.take 8++(b.drop 12).take n)=cj (b.drop 8):=by
 have I:((b.drop 12).take n).length=n:=by simp;omega
 obtain⟨D,t,j,r,l0,l1,l2,G⟩:∃D t j r:List UInt8,D.length=4/\t.length=4/\j.length=4/\b=D++(t++(j++r)):=
  ⟨b.take 4,(b.drop 4).take 4,((b.drop 4).drop 4).take 4,((b.drop 4).drop 4).drop 4,by simp;omega,by simp;omega,by simp;omega,by rw[KJ,KJ,KJ]⟩
 have d4:b.drop 4=t++(j++r):=by rw[G,<-l0];simp
 have d8:b.drop 8=j++r:=by rw[show(8:Nat)=4+4 from rfl,<-LM,d4,<-l1];simp
 have d12:b.drop 12=r:=by rw[show(12:Nat)=8+4 from rfl,<-LM,d8,<-l2];simp
 have O:=fH b;have Y:=fH (b.drop 4);have J:=fH (b.drop 8);have K:D=cy (cj b):=oh O D (t++(j++r)) l0 (by rw[<-G]);have M:t=cy n:=oh O_ t (j++r) l1 (by rw[<-d4,hn]);have U:j=cy (cj (b.drop 8)):=oh J j r l2 (by rw[<-d8]);have t8:b.take 8=cy (cj b)++cy n:=by
  rw[<-K,<-M]
  conv=>lhs;rw[G]
  rw[<-JU,show(8:Nat)=(D++t).length by rw[p_];omega,List.take_left]
 have V:b.take (12+n)=cy (cj b)++cy n++cy (cj (b.drop 8))++(b.drop 12).take n:=by
  rw[<-K,<-M,<-U,d12]
  conv=>lhs;rw[G]
  rw[show D++(t++(j++r))=(D++t++j)++r by simp,List.take_append,Kq (by simp;omega)]
  congr 2
  simp;omega
 have hc:=qL (cy (cj b)++cy n++(b.drop 12).take n);rw[V,t8];unfold aw;rw[I];constructor
 ·intro h
  have h1:=List.append_cancel_right h;have h2:=List.append_cancel_left h1;exact EL hc J h2
 intro h;rw[h]
def CP(w:j_)(o:Option Fr)(e:Ending)(w':j_):Prop:=n_ w.heap.size w w'/\match o with
 |none=>∃(g n:Int) (A:Option Addr) (m c:Nat),e=k_ (J_ #[e_ d_ g,a_ A m c,e_ d_ n,u_ o_])
 |some x=>∃A c,e=k_ (J_ #[e_ d_ (x.gen:Nat),a_ A x.aJ.length c,e_ d_ (x.stop:Nat),u_ true])/\Par.Own w' w.heap.size 5 (a_ A x.aJ.length c) (l_ x.aJ)
theorem rB(A:Option Addr)(c:Nat)(b:List UInt8)(w:j_)(h:bw w w (a_ A b.length c) (l_ b))(hl:b.length<=800000):
  H_ h_ 99 #[a_ A b.length c] w (CP w (dE b 0)):=by
 have H:=Z_ h;clear h;by_cases ck:b.length<12
 ·have I:x_ (dE b 0=b_):=Z_ (by unfold dE;rw[G_ O_])
  rw[I.o];have hd:(b.length:Int)<12:=by omega
  go_enter Tryz.func99,Tryz.ntmps99;go_wp2;refine C_ (fI rfl _ _ _) rfl ?_;exact⟨JG _ _,0,0,b_,0,0,rfl⟩
 have hd:¬(b.length:Int)<12:=by omega
 obtain⟨Am,cm,em,sm⟩:=fJ H.o 4 O_;have J:∀w',(KO 24 (a_ A b.length c) (c_ (e_ d_ 4)) b_ b_).run h_ w'=.ok (a_ Am (b.length - 4) cm) w':=λw'=>by
  have:=eF A b.length c 4 w' O_;rw[em]at this;exact this
 obtain⟨N,t⟩:=N_ (cj (b.drop 4));have hN:=fH (b.drop 4);rw[<-t]at hN;have b2:=Z_ t;have M:x_ (H_ h_ 128 #[a_ Am (b.length - 4) cm] w λe w'=>e=k_ (e_ d_ (N:Nat))/\x_ (n_ w w w')):=Z_ (by
  refine(p9 _ _ _ w sm (by simp;omega)).mono ?_;rintro e w' ⟨rfl,n,rfl⟩;exact⟨by rw[t],Z_ (below_drewN B_ n)⟩)
 have bf:dE b 0=if 65536<N\/b.length<12+N then b_ else if mQ (b.take 8++(b.drop 12).take N)≠cj (b.drop 8)then b_ else c_ ⟨cj b,(b.drop 12).take N,0,12+N⟩:=by
  unfold dE;simp only[Lp,KU];rw[I_ O_,<-t]
 have O:=Z_ bf;clear t bf sm em;by_cases bg:65536<N
 ·have I:x_ (dE b 0=b_):=Z_ (by rw[O.o,G_ (.inl bg)])
  rw[I.o];have b3:(65536:Int)<(N:Int):=by omega
  go_enter Tryz.func99,Tryz.ntmps99;go_wp2_with fail;refine M.o.mono ?_;rintro e w1 ⟨rfl,j⟩;go_wp2;refine C_ (fI rfl _ _ _) rfl ?_;exact⟨j.o,0,0,b_,0,0,rfl⟩
 have b3:¬(65536:Int)<(N:Int):=by omega
 by_cases Z:b.length<12+N
 ·have I:x_ (dE b 0=b_):=Z_ (by rw[O.o,G_ (.inr Z)])
  rw[I.o];have b5:(b.length:Int)<12+(N:Int):=by omega
  go_enter Tryz.func99,Tryz.ntmps99;go_wp2_with fail;refine M.o.mono ?_;rintro e w1 ⟨rfl,j⟩;go_wp2;refine C_ (fI rfl _ _ _) rfl ?_;exact⟨j.o,0,0,b_,0,0,rfl⟩
 have b5:¬(b.length:Int)<12+(N:Int):=by omega
 have ad:x_ (dE b 0=if mQ (b.take 8++(b.drop 12).take N)≠cj (b.drop 8)then b_ else c_ ⟨cj b,(b.drop 12).take N,0,12+N⟩):=Z_ (by rw[O.o,I_ O_]);obtain⟨ak,A5,c5,e5,s5⟩:=lG H.o 12 (12+N) O_ O_;rw[show 12+N - 12=N by omega]at e5 s5;have b6:∀w',(KO 24 (a_ A b.length c) (c_ (e_ d_ 12)) (c_ (e_ d_ (12+(N:Int)))) b_).run h_ w'=.ok (a_ A5 N c5) w':=λw'=>by
  have:=rT A b.length c 12 (12+N) w' O_ ak;rw[e5,show((12+N:Nat):Int)=12+(N:Int) by omega]at this;exact this
 have ch:d_.wrap (12+(N:Int))=12+(N:Int):=IntWalk.i64_in _ O_;have cl:∀w',(KO 24 (a_ A b.length c) b_ (c_ (e_ d_ (12+(N:Int)))) b_).run h_ w'=.ok (a_ A (12+N) c) w':=λw'=>by
  have:=gJ A b.length c (12+N) w' ak;rw[show((12+N:Nat):Int)=12+(N:Int) by omega]at this;exact this
 obtain⟨cb,bj⟩:=xy H.o (12+N) O_;obtain⟨p,hp⟩:=N_ ((b.drop 12).take N);have bk:p.length=N:=by rw[hp];simp;omega
 rw[<-hp]at s5 ad;have HP:=Z_ hp;have cc:=Z_ s5;have cd:=Z_ bj;have G:=Z_ bk;have cf:=fH b;have HG:x_ (H_ h_ 128 #[a_ A b.length c] w λe w'=>e=k_ (e_ d_ (cj b:Nat))/\True):=Z_ ((p9 _ _ _ w H.o O_).mono λe w' h=>⟨h.1,trivial⟩);have U:x_ (∀X,n_ w w X->H_ h_ 128 #[a_ A b.length c] X λe w'=>e=k_ (e_ d_ (cj b:Nat))/\x_ (n_ X X w')):=Z_ λX hX=>by
  refine(p9 _ _ _ X (H.o.below hX) O_).mono ?_;rintro e w' ⟨rfl,n,rfl⟩;exact⟨rfl,Z_ (below_drewN B_ n)⟩
 have bm:x_ (aw (cj b) p=b.take (12+N)↔mQ (b.take 8++p)=cj (b.drop 8)):=Z_ (by rw[hp];exact Br b2.o.symm O_);generalize cj b=g at*;clear hp s5 bj bk O HG ak cb;go_enter Tryz.func99,Tryz.ntmps99;go_wp2_with fail;refine M.o.mono ?_;rintro e w1 ⟨rfl,j⟩;clear M;go_wp2_with fail;refine(cY _ p w w1 (cc.o.below j.o) j.o.size (by have:=G.o;omega)).mono ?_;rintro e w2 ⟨u2,rfl,av,bn⟩;have a1:=Z_ (j.o.trans (bn.mono j.o.size));obtain⟨A2,c2,bo⟩:=av.form;rw[t_,G.o]at bo;have bp:=Z_ av;clear av bn;subst bo;go_wp2_with fail;refine(U.o w2 a1.o).mono ?_;rintro e w3 ⟨rfl,V⟩;have bt:=Z_ (a1.o.trans (V.o.mono a1.o.size));have bx:=Z_ (bp.o.below V.o);have bB:x_ (n_ w3 w3 w3.drew):=Z_ (JG _ w3).drew;have bN:=Z_ (mz g cf (a_ A2 N c2) p w3.drew (Own.dH bx.o) (by have:=G.o;omega));clear U bp J b6;go_upto_region 8 with fail;refine KE (S:=λ_=>True) K_ ?_;refine Jy (i:=0) (v:=e_ d_ (g:Nat)) rfl K_ K_ K_ (λ_ _ _ h=>h) (Ke ⟨by rfl,λw' hS=>by go_simp⟩) trivial ?_;refine Jy (i:=1) (v:=a_ A2 N c2) rfl K_ K_ K_ (λ_ _ _ h=>h) (Ke ⟨by rfl,λw' hS=>by go_simp⟩) trivial ?_;refine Jy (i:=2) (v:=e_ d_ (N:Nat)) rfl K_ K_ K_ (λ_ _ _ h=>h) (Ke ⟨by rfl,λw' hS=>by go_simp⟩) trivial ?_;refine Jy (i:=3) (v:=e_ d_ (12+(N:Int))) rfl K_ K_ K_ (λ_ _ _ h=>h) (Ke ⟨by rfl,λw' hS=>by go_simp⟩) trivial ?_;refine Jy (i:=4) (v:=e_ d_ (g:Nat)) rfl K_ K_ K_ (λ_ _ _ h=>h) (Ke ⟨by rfl,λw' hS=>by go_simp⟩) trivial ?_;refine Jy (i:=5) (v:=a_ A2 N c2) rfl K_ K_ K_ (λ_ _ _ h=>h) (Ke ⟨by rfl,λw' hS=>by go_simp⟩) trivial ?_;refine Jy (i:=7) (v:=a_ A b.length c) rfl K_ K_ K_ (λ_ _ _ h=>h) (Ke ⟨by rfl,λw' hS=>by go_simp⟩) trivial ?_;refine Jy (i:=8) (v:=e_ d_ (N:Nat)) rfl K_ K_ K_ (λ_ _ _ h=>h) (Ke ⟨by rfl,λw' hS=>by go_simp⟩) trivial ?_;refine Jy (i:=9) (v:=e_ d_ (12+(N:Int))) rfl K_ K_ K_ (λ_ _ _ h=>h) (Ke ⟨by rfl,λw' hS=>by go_simp⟩) trivial ?_;refine Jy (i:=10) (v:=a_ A (12+N) c) rfl K_ K_ K_ (λ_ _ _ h=>h) (Ke ⟨by rfl,λw' hS=>by go_simp⟩) trivial ?_;refine ag 6 λK hK=>?_
 go_simp;refine bN.o.mono ?_;rintro e w4 ⟨A4,c4,rfl,bO,a2⟩;have ba:=Z_ (bt.o.trans ((bB.o.trans a2).mono bt.o.size));have bR:=Z_ (bB.o.trans a2);have J:=Own.dH bO;have b0:=(cd.o.below ba.o).more ba.o.size;have b1:=Z_ J;have Y:=Z_ b0;clear bO a2 bN J b0;refine hK _ _ ⟨trivial,?_⟩;clear hK K;refine ag 11 λK hK=>?_
 go_simp;have bb:=jg _ _ _ _ w4 w4 b1.o Y.o;obtain⟨D,hD⟩:=N_ (decide (aw g p=b.take (12+N)));rw[<-hD]at bb;have HD:=Z_ hD;clear hD;refine bb.mono ?_;rintro e w5 ⟨rfl,n5,bd⟩;have HB5:=Z_ (show n_ w w w5 by rw[bd];exact below_drewN ba.o n5);have cg:x_ (Par.Own w5 w 5 (a_ A2 N c2) (l_ p)):=Z_ (by rw[bd];exact((bx.o.below bR.o).base j.o.size));clear bb bd b1 Y;refine hK _ _ ⟨trivial,?_⟩;clear hK K;refine Jy (i:=12) (v:=e_ d_ (g:Nat)) rfl K_ K_ K_ (λ_ _ _ h=>h) (Ke ⟨by rfl,λw' hS=>by go_simp⟩) trivial ?_;refine Jy (i:=13) (v:=a_ A2 N c2) rfl K_ K_ K_ (λ_ _ _ h=>h) (Ke ⟨by rfl,λw' hS=>by go_simp⟩) trivial ?_;refine Jy (i:=14) (v:=e_ d_ (12+(N:Int))) rfl K_ K_ K_ (λ_ _ _ h=>h) (Ke ⟨by rfl,λw' hS=>by go_simp⟩) trivial ?_;refine Jy (i:=15) (v:=u_ D) rfl K_ K_ K_ (λ_ _ _ h=>h) (Ke ⟨by rfl,λw' hS=>by go_simp⟩) trivial ?_;refine J6 K_ ?_ _;cases D
 ·have hc:mQ (b.take 8++p)≠cj (b.drop 8):=λh=>by
   have:=bm.o.2 h;have h2:=HD.o;rw[JR this]at h2;cases h2
  have I:x_ (dE b 0=b_):=Z_ (by rw[ad.o,G_ hc]);clear hc;go_wp2;refine C_ (fI rfl _ _ _) rfl ?_;rw[I.o];exact⟨HB5.o,_,_,_,_,_,rfl⟩
 have hc:mQ (b.take 8++p)=cj (b.drop 8):=bm.o.1 (Kv HD.o.symm);have I:x_ (dE b 0=c_ ⟨g,p,0,12+N⟩):=Z_ (by rw[ad.o,I_ (by simpa using hc)]);clear hc;go_wp2;refine C_ (fI rfl _ _ _) rfl ?_;rw[I.o];refine⟨HB5.o,A2,c2,?_,by simp only;rw[G.o];exact cg.o⟩;simp only;rw[G.o,show((12+N:Nat):Int)=12+(N:Int) by omega];rfl
theorem Bq{o:Nat}(t:o<=b.length):dE (b.drop o) 0=(dE b o).map λx=>⟨x.gen,x.aJ,0,x.stop - o⟩:=by
 unfold dE;simp only[Lp,L5,LM,Kr,KU];by_cases h1:b.length<o+12
 ·rw[G_ h1,G_ O_];rfl
 rw[I_ h1,I_ O_];by_cases h2:65536<cj (b.drop (o+4))\/b.length<o+12+cj (b.drop (o+4))
 ·rw[G_ h2,G_ O_];rfl
 rw[I_ h2,I_ O_];by_cases j:mQ (List.take 8 (b.drop o)++List.take (cj (b.drop (o+4))) (b.drop (o+12)))=cj (b.drop (o+8))
 ·rw[I_ (by simpa using j),I_ (by simpa using j)]
  simp only[Option.map_some]
  congr 2
  omega
 rw[G_ j,G_ j];rfl
theorem yt:∀(f i k:Nat),b.length<i+f->i<=b.length->k<=(kp b f i).length->((kp b f i)[k]?).map (·.1)=dE b (if k=0 then i else bD ((kp b f i).take k)):=by
 intro f
 induction f with
 |zero=>intro i k h1 h2;omega
 |succ f G=>
  intro i k h1 h2 j;cases t:dE b i with
  |none=>
   rw[ik t]at j⊢;have:k=0:=by simpa using j
   subst this;simp[t]
  |some x=>
   obtain⟨s1,s2,I,-⟩:=dB t;rw[oa t]at j⊢;cases k with
   |zero=>simp[t]
   |succ k=>
    rw[I_ O_,List.getElem?_cons_succ,List.take_succ_cons];rw[G x.stop k O_ I (by simpa using j)]
    congr 1
    split
    ·rename_i h0;subst h0;simp[bD]
    rename_i h0
    unfold bD;rw[List.getLast?_cons];cases D:(List.take k (kp b f x.stop)).getLast? with
    |none=>
     rw[List.getLast?_eq_none_iff]at D;have:=J7 List.length D;simp at this j;rcases this with h|h
     ·exact absurd h h0
     rw[h]at j;simp at j;exact absurd j h0
    |some y=>simp
theorem Bm:bD ([]:List (cH b))=0:=rfl
theorem oc(j:k<=(dM b).length):dE b (bD ((dM b).take k))=((dM b)[k]?).map (·.1):=by
 have h:=yt (b:=b) (b.length+1) 0 k O_ O_ j;unfold dM;rw[h]
 congr 1
 split
 ·rename_i h0;subst h0;rfl
 rfl
theorem q9(j:k<=(dM b).length):dE (b.drop (bD ((dM b).take k))) 0=((dM b)[k]?).map λx=>⟨x.1.gen,x.1.aJ,0,x.1.stop - bD ((dM b).take k)⟩:=by
 rw[Bq vN,oc j,Option.map_map];rfl
theorem mn{x:cH b}{l:List (cH b)}(h:l[k]?=c_ x):bD (l.take (k+1))=x.1.stop:=by
 obtain⟨j,hx⟩:=LG.1 h;rw[y_ j,ir,hx]
theorem oO{x:cH b}(h:(dM b)[k]?=c_ x):bD ((dM b).take k)+12<=x.1.stop:=by
 obtain⟨j,hx⟩:=LG.1 h;have h2:=oc (b:=b) (k:=k) O_;rw[h]at h2;have t:x.1.stop=_:=(dB h2).2.1;omega
def vf(w:j_)(o:Option (Nat×List (List UInt8)))(e:Ending)(w':j_):Prop:=n_ w.heap.size w w'/\match o with
 |none=>∃(g:Int) (u:m_),(∃A m c,u=a_ A m c)/\e=k_ (J_ #[e_ d_ g,u,u_ o_])
 |some x=>∃u,e=k_ (J_ #[e_ d_ (x.1:Nat),u,u_ true])/\al (λb=>w.heap.size<=b/\b<w'.heap.size) w' u x.2
structure GY(b:List UInt8)(x:Fr)(E:Nat->Nat)(zs:List Fr):Prop where
 first:dE b 0=c_ x
 len:zs.length<=b.length
 base:bP b=if x.aJ.length=4/\(∀y∈zs,y.gen=x.gen)/\E zs.length=b.length/\zs.length=cj x.aJ then c_ (x.gen,zs.map (·.aJ))else b_
 next:∀k,k<=zs.length->dE (b.drop (E k)) 0=(zs[k]?).map λy=>⟨y.gen,y.aJ,0,y.stop - E k⟩
 iu:∀k y,zs[k]?=c_ y->E k+12<=y.stop/\E (k+1)=y.stop/\y.stop<=b.length
 zero:E 0=x.stop
 stop:x.stop<=b.length
theorem chain:(dE b 0=b_/\bP b=b_)\/∃x E I,GY b x E I:=by
 have t:=oc (b:=b) (k:=0) O_;simp only[List.take_zero,Bm]at t;have hlen:=jP b;cases j:dM b with
 |nil=>
  rw[j]at t;exact .inl ⟨t,by unfold bP;rw[j]⟩
 |cons x xs=>
  rw[j]at t hlen;refine .inr ⟨x.1,λk=>bD ((x::xs).take (k+1)),xs.map (·.1),t,by simpa using hlen,?_,λk J=>?_,λk y D=>?_,mn (l:=x::xs) (k:=0) rfl,(dB x.2).2.2.1⟩
  ·unfold bP
   rw[j];have h1:(∀y∈xs.map (·.1),y.gen=x.1.gen)↔∀y∈xs,y.1.gen=x.1.gen:=by simp
   have h2:(x::xs).take (xs.length+1)=x::xs:=Kq (by simp);simp only[KL,Mv];rw[h2];simp only[h1];rfl
  ·rw[KL]at J
   have:=q9 (b:=b) (k:=k+1) (by rw[j];simp;omega);rw[j,List.getElem?_cons_succ]at this;rw[this,LR,Option.map_map];rfl
  rw[LR]at D;cases G:xs[k]? with
  |none=>rw[G]at D;cases D
  |some z=>
   rw[G]at D;cases D;have h1:(x::xs)[k+1]?=c_ z:=by simpa using G
   refine⟨?_,mn h1,(dB z.2).2.2.1⟩;rw[<-j]at h1;have:=oO h1;rw[j]at this;exact this
theorem CU(A:Option Addr)(c:Nat)(b:List UInt8)(w:j_)(h:bw w w (a_ A b.length c) (l_ b))(hl:b.length<=800000):
  H_ h_ 98 #[a_ A b.length c] w (vf w (bP b)):=by
 have H:=Z_ h;have j:=Z_ (rB A c b w h hl);clear h;obtain⟨P,hP⟩:=N_ (vf w (bP b));rw[<-hP];have HP:=Z_ hP;clear hP;rcases chain (b:=b)with⟨bB,t⟩|⟨x,E,U,hC⟩
 ·have I:=Z_ t
  clear t;rw[bB]at j;clear bB;go_enter Tryz.func98,Tryz.ntmps98;go_wp2_with fail;refine j.o.mono ?_;rintro e w1 ⟨O,g,n,A1,m1,c1,rfl⟩;have Y:=Z_ O;clear O j;go_wp2
  go_ret3
  rw[HP.o,I.o];exact⟨Y.o,_,_,⟨_,_,_,rfl⟩,rfl⟩
 rw[hC.first]at j;obtain⟨g,aJ,st,sp⟩:=x;have HC:=Z_ hC;have bN:=hC.stop;have ec:=hC.len;simp only at bN;clear hC;by_cases h4:aJ.length=4
 ·obtain⟨N,hN⟩:∃N,N=cj aJ:=⟨_,rfl⟩
  have cu:=fH aJ;rw[<-hN]at cu;have HN:=Z_ hN;have H4:=Z_ h4;clear hN;go_enter Tryz.func98,Tryz.ntmps98;go_wp2_with fail;refine j.o.mono ?_;rintro e w1 ⟨O,A1,c1,rfl,ba⟩;simp only at ba;rw[h4]at ba⊢;have Y:=Z_ O;have bO:=Own.dH ba;have bg:=Z_ (p9 _ aJ _ w1 bO O_);clear O j ba bO;go_wp2_with fail;refine bg.o.mono ?_;rintro e Z ⟨rfl,n2,bR⟩;rw[<-HN.o];have V:x_ (n_ w w Z):=Z_ (by rw[bR];exact below_drewN Y.o n2);clear bR bg;have bj:=Par.Own.new Z Z 24 #[] [] rfl L_ (by simp);have b0:n_ Z Z (Z.alloc (.cells #[] 24)):=(JG _ Z).alloc L_ _;have H0:x_ (Rowed Z (U.map (·.aJ)) 0 _ [] _):=Z_ ⟨b0,rfl,bj,λi hi=>by omega⟩;clear bj b0;go_wp2;have hH:=H.o
  go_loopw [0,7,10,11] (λbv nv ov iv wr=>∃(k:Nat) (us:List m_) (Ak:Option Addr) (ck e n M:Nat),k<=N/\k<=U.length/\M=b.length - e/\e+n<=b.length/\bv=a_ Ak M ck/\nv=e_ d_ (n:Nat)/\iv=e_ d_ (k:Nat)/\x_ (bw w w (a_ Ak M ck) (l_ (b.drop e)))/\x_ (∀y∈U.take k,y.gen=g)/\x_ (e+n=E k)/\x_ (Rowed Z (U.map (·.aJ)) k ov us wr)) (λ_ _ _ i _=>N - (intOf i).toNat)
  case atStart=>
   refine⟨0,[],A,c,0,sp,b.length,by omega,by omega,by omega,by omega,rfl,rfl,rfl,Z_ hH,Z_ (by simp),Z_ ?_,H0⟩;have:=HC.o.zero;simp only at this;omega
  obtain⟨k,us,Ak,ck,e,n,M,hk,cv,hM,ee,rfl,rfl,rfl,cx,b1,ad,G⟩:=hrel;obtain⟨As,cs,ak⟩:=G.o.own.form;rw[G.o.len]at ak;subst ak;have eg:=G.o.below.size;by_cases en:k<N
  ·have b2:bw w w (a_ Ak (b.drop e).length ck) (l_ (b.drop e)):=by rw[Kr,<-hM];exact cx.o
   obtain⟨A5,c5,e5,s5⟩:=fJ b2 n (by rw[Kr];omega);rw[Kr,<-hM]at e5 s5;rw[LM]at s5;obtain⟨M5,b3⟩:=N_ (M - n);rw[<-b3]at e5 s5;have eo:∀w',(KO 24 (a_ Ak M ck) (c_ (e_ d_ (n:Nat))) b_ b_).run h_ w'=.ok (a_ A5 M5 c5) w':=λw'=>by
    have:=eF Ak M ck n w' O_;rw[e5]at this;exact this
   have K:x_ (n_ w w wr):=Z_ (V.o.trans (G.o.below.mono V.o.size));have b5:bw wr wr (a_ A5 (b.drop (e+n)).length c5) (l_ (b.drop (e+n))):=by
    rw[Kr,show b.length - (e+n)=M5 by omega];exact(s5.below K.o).more K.o.size
   have D:=rB A5 c5 (b.drop (e+n)) wr b5 (by rw[Kr];omega);rw[Kr,show b.length - (e+n)=M5 by omega]at D;have cB:x_ (M5=b.length - (e+n)):=Z_ O_;have bo:=HC.o.next k cv;have b6:=ad.o;rw[<-b6]at bo;rw[bo]at D;have cE:=Z_ s5;have av:=Z_ (HC.o.iu k);have cF:=Z_ hM;clear b5 s5 bo b6 e5 b2 b3 hM;cases hy:U[k]? with
   |none=>
    have hle:U.length<=k:=by simpa using hy
    have t:bP b=none:=by rw[HC.o.base,I_ (λh=>by have:=h.2.2.2;simp only at this;rw[<-HN.o]at this;omega)]
    have I:=Z_ t;rw[hy]at D;simp only[Option.map_none]at D;have j:=Z_ D;clear D t;go_wp2_with fail;refine j.o.mono ?_;rintro e w4 ⟨J,g4,n4,A4,m4,c4,rfl⟩;have X:=Z_ (K.o.trans (J.mono K.o.size));clear J j;go_wp2
    go_ret3
    rw[HP.o,I.o];exact⟨X.o,_,_,⟨_,_,_,rfl⟩,rfl⟩
   |some y=>
    rw[hy]at D;obtain⟨cb,bp⟩:=LG.1 hy;have bb:=Z_ (av.o y hy);have cc:=Z_ (av.o y hy).2.2;have cd:x_ (y∈U):=Z_ (by rw[<-bp];exact JB cb);have cf:x_ ((U.map (·.aJ)).getD k []=y.aJ):=Z_ (by simp[s_,LR,hy]);have cg:x_ (U.take (k+1)=U.take k++[y]):=Z_ (by rw[y_ cb,bp]);obtain⟨gy,py,ev,c7⟩:=y;try simp only at bb
    try simp only at cc
    try simp only at cd
    try simp only at cf
    try simp only at cg
    rw[<-ad.o]at bb;have c8:=bb.o.1;try simp only at c8
    simp only[Option.map_some]at D;clear hy bp av;by_cases ch:gy=g
    ·subst ch
     obtain⟨n',bt⟩:=N_ (c7 - (e+n));rw[<-bt]at D;have cl:=Z_ bt;clear bt;have j:=Z_ D;clear D;go_wp2_with fail;refine j.o.mono ?_;rintro e0 w4 ⟨J,A4,c4,rfl,bd⟩;simp only at bd;simp only;have X:=Z_ J;have a1:=(G.o.own.below J).alloc (.cells #[a_ A4 py.length c4] 24);have bk:=eB (Own.jf bd (F:=λ_=>False) (λ_ h=>h.elim));have bm:=bw.new w4 24 #[a_ A4 py.length c4] [a_ A4 py.length c4] rfl (by simp[maxLen]);have eA:=J.size;have dv:=Z_ G.o.len;have hlen:=G.o.len;have cm:=Z_ bd;clear bd J j;go_wp2_with (at_builtin;refine aE _ rfl _ _ _ rfl Z 24 _ j8 _ _ rfl a1 _ _ _ rfl bm (λx hx=>by simp at hx;subst hx;exact bk) ?c1 ?c2 ?_)
     case c1=>simp;omega
     case c2=>simp;omega
     intro v5 w5 a2 cp bn;have cr:=Z_ (G.o.next X.o (by rw[cf.o];exact cm.o) _ a2 cp bn);clear a2 cp bn a1 bk bm cm X;obtain⟨A6,c6,bf⟩:=cr.o.own.form;subst bf;go_wp2;go_roundw
     case rel=>
      refine⟨k+1,_,A5,c5,e+n,n',M5,by omega,by omega,cB.o,by have:=cc.o;have:=cl.o;omega,rfl,rfl,by go_num,cE,Z_ ?_,Z_ ?_,cr⟩
      ·intro z hz
       rw[cg.o]at hz;rcases KI.1 hz with hz|hz
       ·exact b1.o z hz
       simp at hz;subst hz;rfl
      have:=bb.o.2.1;have:=cl.o;omega
     simp[intOf];omega
    have t:bP b=none:=by rw[HC.o.base,I_ (λh=>ch (h.2.1 _ cd.o))]
    have I:=Z_ t;have eC:¬((gy:Nat):Int)=(g:Nat):=by omega
    have j:=Z_ D;clear D t;go_wp2_with fail;refine j.o.mono ?_;rintro e0 w4 ⟨J,A4,c4,rfl,-⟩;try simp only
    have X:=Z_ (K.o.trans (J.mono K.o.size));clear J j;go_wp2
    go_ret3
    rw[HP.o,I.o];exact⟨X.o,_,_,⟨_,_,_,rfl⟩,rfl⟩
  have c9:k=N:=by omega
  have K:x_ (n_ w w wr):=Z_ (V.o.trans (G.o.below.mono V.o.size));have cF:=Z_ hM;by_cases eb:e+n=b.length
  ·have bx:(M:Int)=(n:Nat):=by omega
   clear hM;have ct:U.length=k:=by
    rcases Nat.lt_or_ge k U.length with h|h
    ·have h1:=HC.o.iu k U[k] (w_ h)
     rw[<-ad.o]at h1;have h2:=h1.2.2;omega
    omega
   have t:bP b=c_ (g,U.map (·.aJ)):=by
    rw[HC.o.base,G_];refine⟨H4.o,?_,?_,?_⟩
    ·rw[<-Kq (l:=U) (i:=k) O_];exact b1.o
    ·have:=ad.o
     rw[ct];omega
    simp only;rw[<-HN.o];omega
   have I:=Z_ t;clear t;go_wp2
   go_ret3
   rw[HP.o,I.o];refine⟨K.o,_,rfl,⟨us,?_,?_,λi hi=>?_⟩⟩
   ·rw[G.o.len];simp[ct]
   ·have:=Own.jf G.o.own (F:=λk=>k<Z.heap.size) (λk hk=>hk)
    exact this.ae λb hb=>⟨⟨by have:=hb.2;have:=V.o.size;omega,hb.1⟩,rfl⟩
   exact(G.o.cells i (by simp at hi;omega)).ae λb hb=>⟨⟨by have:=hb.1;have:=V.o.size;omega,hb.2.1⟩,rfl⟩
  have bx:¬(M:Int)=(n:Nat):=by omega
  have e1:((M:Int)==(n:Int))=false:=by simpa using bx
  clear hM bx;have t:bP b=none:=by
   rw[HC.o.base,I_];intro h;have h3:=h.2.2.2;simp only at h3;rw[<-HN.o]at h3;have h4:=h.2.2.1;have h5:=ad.o;rw[h3,c9.symm]at h4;omega
  have I:=Z_ t;clear t;go_wp2
  go_ret3
  rw[HP.o,I.o];exact⟨K.o,_,_,⟨_,_,_,rfl⟩,rfl⟩
 have t:bP b=none:=by rw[HC.o.base,I_ (λh=>h4 h.1)]
 have I:=Z_ t;have df:¬((aJ.length:Nat):Int)=4:=by omega
 clear HC t;obtain⟨M,hM⟩:=N_ (aJ.length);have HM:=Z_ hM;rw[<-hM]at df;clear h4 bN hM;go_enter Tryz.func98,Tryz.ntmps98;go_wp2_with fail;refine j.o.mono ?_;rintro e w1 ⟨O,A1,c1,rfl,-⟩;simp only;rw[<-HM.o];have Y:=Z_ O;clear O j;go_wp2
 go_ret3
 rw[HP.o,I.o];exact⟨Y.o,_,_,⟨_,_,_,rfl⟩,rfl⟩
theorem AW(p:α->Bool):∀(l:List α) (x:α),l[(l.takeWhile p).length]?=c_ x->p x=o_
 |[],x,h=>by simp at h
 |a::l,x,h=>by
  rw[Mn]at h;split at h
  ·rw[Jz,List.getElem?_cons_succ]at h
   exact AW p l x h
  rename_i hp
  simp at h;subst h;simpa using hp
theorem Ep(p:α->Bool):∀(l:List α) (x:α),x∈l.takeWhile p->p x=true
 |[],x,h=>by simp at h
 |a::l,x,h=>by
  rw[Mn]at h;split at h
  ·rename_i hp
   rcases JL.1 h with h|h
   ·subst h;exact hp
   exact Ep p l x h
  simp at h
structure G4(d:List UInt8)(g:Nat)(E:Nat->Nat)(ps:List (List UInt8)):Prop where
 zero:E 0=0
 next:∀k,k<ps.length->dE (d.drop (E k)) 0=c_ ⟨g,ps.getD k [],0,E (k+1) - E k⟩/\E k<E (k+1)/\E (k+1)<=d.length
 last:dE (d.drop (E ps.length)) 0=b_\/∃y,dE (d.drop (E ps.length)) 0=c_ y/\y.gen≠g
 le:∀k,E k<=d.length
 len:ps.length<=d.length+1
theorem Hf(d:List UInt8)(g:Nat):∃E,G4 d g E (dR (aU g (dM d)))/\E (dR (aU g (dM d))).length=bD (aU g (dM d)):=by
 obtain⟨T,J⟩:=N_ (aU g (dM d));have j:T<+:dM d:=by rw[J];exact List.takeWhile_prefix _
 have hle:=j.length_le;have hlen:=jP d;have G:(dR T).length=T.length:=by simp[dR]
 have I:∀k,k<=T.length->T.take k=(dM d).take k:=λk t=>by
  have e:=List.prefix_iff_eq_take.1 j;rw[e,List.take_take,K2 t]
 have D:∀k,k<T.length->(dM d)[k]?=T[k]?:=λk t=>by
  have e:=List.prefix_iff_eq_take.1 j
  conv=>rhs;rw[e]
  rw[List.getElem?_take_of_lt t]
 rw[<-J];refine⟨λk=>bD (T.take k),⟨rfl,λk t=>?_,?_,λk=>vN,by omega⟩,by simp only;rw[G,JO]⟩
 ·rw[G]at t
  have h1:=q9 (b:=d) (k:=k) O_;rw[<-I k O_,D k t]at h1;have hx:T[k]?=c_ T[k]:=w_ t;have V:T[k].1.gen=g:=by
   have hm:∀y∈T,y.1.gen=g:=λy O=>by
    rw[J]at O;have h2:=Ep (λx:cH d=>x.1.gen==g) (dM d) y O;simpa using h2
   exact hm _ (JB t)
  have he:bD (T.take (k+1))=T[k].1.stop:=mn hx;have K:=oO (b:=d) (k:=k) (x:=T[k]) (by rw[D k t];exact hx);rw[<-I k O_]at K;rw[hx]at h1;have M:(dR T).getD k []=T[k].1.aJ:=by unfold dR;simp[s_,LR,hx]
  refine⟨?_,?_,?_⟩
  ·rw[h1,he,M,<-V]
   rfl
  ·omega
  rw[he];exact(dB T[k].2).2.2.1
 rw[G];have h1:=q9 (b:=d) (k:=T.length) hle;rw[<-I _ L_]at h1;cases hx:(dM d)[T.length]? with
 |none=>rw[hx]at h1;exact .inl h1
 |some y=>
  rw[hx]at h1;refine .inr ⟨_,h1,?_⟩;have h2:=AW (λx:cH d=>x.1.gen==g) (dM d) y (by have U:=hx;rw[J]at U;exact U);simpa using h2
structure ma(m:Nat)(ps:List (List UInt8))(k:Nat)(v:m_)(us:List m_)(W:j_):Prop where
 len:us.length=k
 own:Par.Own W m 24 v us
 cells:∀i,i<k->a8 (λb=>m<=b/\b<W.heap.size/\v.ownBlock≠c_ b) W (us.getD i (u_ o_)) (l_ (ps.getD i []))
theorem ma.nil(m:Nat)(ps:List (List UInt8))(W:j_):ma m ps 0 (a_ b_ 0 0) [] W:=⟨rfl,Par.Own.nil _ _ _,λi hi=>by omega⟩
theorem ma.below(h:ma m ps k v us W)(j:n_ W W W'):ma m ps k v us W':=
 ⟨h.len,h.own.below j,λi hi=>(h.cells i hi).ae λb ⟨t,D,G⟩=>⟨⟨t,by have:=j.size;omega,G⟩,j.block b D⟩⟩
theorem ma.next{wr t w3:j_}(h:ma m ps k v us wr)(hm:m<=wr)(U:n_ wr wr t)(hu:Par.Own t wr 5 u (l_ (ps.getD k [])))
  {v':m_} (o:Obj) (D:Par.Own w3 m 24 v' (us++[u])) (J:(t.alloc o).grownBy w3 v.ownBlock) (G:v'.ownBlock=v.ownBlock\/v'.ownBlock=c_ (t.heap.size+1)):ma m ps (k+1) v' (us++[u]) w3:=by
 have Z:=U.size;have V:∀g,v.ownBlock=c_ g->m<=g/\g<wr.heap.size:=λg e=>h.own.lt g e
 have ad:=J.size;have ak:(t.alloc o).heap.size=t.heap.size+1:=by simp
 have K:∀b,b<wr.heap.size->v.ownBlock≠c_ b->v'.ownBlock≠c_ b:=by
  intro b av M e;rcases G with j|j
  ·exact M (j.symm.trans e)
  rw[j]at e;cases e;omega
 refine⟨by simp[h.len],D,λi hi=>?_⟩;by_cases I:i<k
 ·rw[show(us++[u]).getD i (u_ o_)=us.getD i (u_ o_) by simp[s_,Kx,h.len,I]]
  refine(h.cells i I).ae λb ⟨X,O,Y⟩=>⟨⟨X,by omega,K b O Y⟩,?_⟩
  rw[J.block b O_ (λe=>Y e.symm),z_ _ _ _ O_,U.block b O]
 have:i=k:=by omega
 subst this;rw[show(us++[u]).getD i (u_ o_)=u by simp[s_,Kx,h.len]];have hs:=Own.jf hu (F:=λk=>k<wr.heap.size) (λk hk=>hk);refine hs.ae λb ⟨X,O⟩=>⟨⟨by omega,by omega,λe=>?_⟩,?_⟩
 ·rcases G with j|j
  ·have:=V b (j.symm.trans e);omega
  rw[j]at e;cases e;omega
 rw[J.block b O_ (λe=>by have:=V b e.symm;omega),z_ _ _ _ O_]
theorem ma.set(h:ma m ps k v us W)(a:Addr)(I:a.block<m)(x:m_):ma m ps k v us (W.setCell a x):=by
 have j:v.ownBlock≠c_ a.block:=λe=>by have:=h.own.lt _ e;omega
 refine⟨h.len,Mc h.own j x,λi hi=>(h.cells i hi).ae λb ⟨t,D,G⟩=>⟨⟨t,by simpa[Kd]using D,G⟩,JZ _ _ _ _ (λe=>by omega)⟩⟩
theorem ma.rows(h:ma m ps k v us W)(t:k=ps.length):al (λb=>m<=b/\b<W.heap.size) W v ps:=by
 subst t;refine⟨us,h.len,?_,λi hi=>(h.cells i hi).ae λb j=>⟨⟨j.1,j.2.1⟩,rfl⟩⟩;have:=Own.jf h.own (F:=λk=>k<m) (λk t=>t);exact this.ae λb j=>⟨⟨by have:=j.2;omega,j.1⟩,rfl⟩
def Ez(w w4 W:j_):Prop:=w4.heap.size<=W.heap.size/\∀b,b<w4.heap.size->b≠w.heap.size+2->W.heap[b]?=w4.heap[b]?
theorem Ez.refl(w w4:j_):Ez w w4 w4:=⟨Kh _,λ_ _ _=>rfl⟩
theorem Ez.below(h:Ez w w4 W)(j:n_ w4 W W'):Ez w w4 W':=⟨by have:=j.size;have:=h.1;omega,λb h1 h2=>(j.block b h1).trans (h.2 b h1 h2)⟩
theorem Ez.set(h:Ez w w4 W)(i:Nat)(x:m_):Ez w w4 (W.setCell ⟨w+1+1,i,b_⟩ x):=⟨by simpa[Kd]using h.1,λb h1 h2=>(JZ _ _ _ _ (λe=>h2 e)).trans (h.2 b h1 h2)⟩
