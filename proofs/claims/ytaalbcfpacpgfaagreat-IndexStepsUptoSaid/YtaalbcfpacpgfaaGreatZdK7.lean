import Derived.Deep.RegionWith
import Derived.Deep.DeepCutAuto
import Derived.BigRegion
import Derived.Test.YtaalbcfpacpgfaaGreatZdM5
import Derived.Test.YtaalbcfpacpgfaaGreatZdK3b
import Derived.Test.YtaalbcfpacpgfaaGreatZdJF
set_option linter.all false
set_option maxHeartbeats 16000000
set_option maxRecDepth 100000
open Bool renaming false->o_
open Go renaming Addr->Kb,Calls->H_,Value->m_,World->j_
open Go.Ending renaming returned->k_
open Go.IntKind renaming i64->d_
open Go.Lib renaming byteCells->l_
open Go.Obj renaming cells->f_
open Go.Proofs.Tryz renaming prog->h_
open Go.RowKit renaming Below->n_,Hid->x_
open Go.Value renaming agg->JI,bool->u_,int->e_,slice->a_,string->g_,tuple->J_
open Option renaming none->b_,some->c_
namespace Go.Proofs.YtaalbcfpacpgfaaGreat
open Go.RowKit Go.Lib Go.Vfs Go.Par
theorem pr(st:St)(hp:st.aa<=9223372036854775807)(v:m_)(S:Nat->Prop)(w:j_)(hS:∀b,S b->b<w.heap.size)(h:aA S w v st.files)(s:List UInt8)(hs:s.length<=9223372036854775807)(hl:st.files.length<=900000)(hd:∀f∈st.files,f.data.length<=1000000)
  (pv:m_) (ls:List (List UInt8)) (cF:al (·<w.heap.size) w pv ls) (ee:ls.flatten.length<=1000000):
  H_ h_ 14 #[JI #[e_ d_ st.aa,v],g_ ⟨s.toArray⟩,pv] w (qo w S (br st s ls.flatten)):=by
 obtain⟨pow,fs⟩:=st;simp only at hp h hl hd⊢;obtain⟨A,c,rfl,hc,hm⟩:=h.form;have H:=Z_ h;clear h;have G:=Z_ hS;clear hS;have c6:=Z_ hd;clear hd;have b1:=dU.start w pow A fs.length c;have c9:x_ (∀b,S b->b<(Zz w pow A fs.length c).heap.size):=Z_ λb hb=>by have:=G.o b hb;rw[dg];omega
 obtain⟨vs,cf,⟨Ap,cp,rfl,eg,df,cg⟩,bf⟩:=cF;have ec:cp<=9223372036854775807:=by simpa[maxLen]using df
 have ch:=Z_ bf;have b3:=Z_ cg;have av:=Z_ cf;clear bf cg cf;have bb:=fZ pow _ fs S _ c9.o (b1.gu G.o H.o) s hs o_;have B1:=Z_ b1;have bd:=Z_ bb;clear b1 bb;cases hn:bS s with
 |false=>
  have e1:ye fs s o_=10:=by unfold ye;rw[hn];rfl
  have bg:=Z_ (xF (st:=⟨pow,fs⟩) (L:=ls.flatten) hn);rw[e1]at bd;clear e1 hn;go_enter Tryz.func14,Tryz.ntmps14;go_wp2_with fail;refine bd.o.mono ?_;rintro e w2 ⟨rfl,bj⟩;have B2:=Z_ (B1.o.go bj);obtain⟨K,M,O,U,V,X,Y,Z⟩:=B2.o.cells;clear bj bd B1;go_wp2;refine C_ (v:=J_ #[JI #[e_ d_ pow,a_ A fs.length c],e_ d_ 10]) (by simp[results,Tryz.results14,go_sem,K,M,O,U,V,X,Y,Z]) rfl ?_;rw[bg.o];exact⟨_,rfl,B2.o.done G.o (aA.vd (B2.o.gu G.o H.o)) (((Kept.refl (λb=>b=w.heap.size\/b=w.heap.size+1) w2).setCell (p:=⟨w+1,0,b_⟩) (.inl (.inr rfl)) _).setCell (p:=⟨w+1,1,b_⟩) (.inl (.inr rfl)) _)⟩
 |true=>
  have e1:ye fs s o_=0:=by unfold ye;rw[hn];rfl
  have ck:br ⟨pow,fs⟩ s ls.flatten=cT ⟨pow,fs⟩ (eJ s ls.flatten fs):=by unfold br;rw[hn];rfl
  have bg:=Z_ ck;rw[e1]at bd;clear e1 hn ck;go_enter Tryz.func14,Tryz.ntmps14;go_wp2_with fail;refine bd.o.mono ?_;rintro e w2 ⟨rfl,bj⟩;have B2:=Z_ (B1.o.go bj);obtain⟨K,M,O,U,V,X,Y,Z⟩:=B2.o.cells;clear bj bd B1;go_wp2_with fail;refine(jF pow hp A fs.length c w2).mono ?_;rintro e w3 ⟨rfl,cl⟩;have B3:=Z_ (B2.o.go cl);clear K M O U V X Y Z cl B2;obtain⟨K,M,O,U,V,X,Y,Z⟩:=B3.o.cells;by_cases b0:pow=0
  ·subst b0
   have HD:=Z_ (jw (st:=⟨0,fs⟩) (fs:=eJ s ls.flatten fs) rfl);rw[G_ rfl,show dec 0=0 from rfl];go_wp2;refine C_ (v:=J_ #[JI #[e_ d_ 0,a_ A fs.length c],e_ d_ 13]) (by simp[results,Tryz.results14,go_sem,K,M,O,U,V,X,Y,Z]) rfl ?_;rw[bg.o,HD.o];exact⟨_,rfl,B3.o.done G.o (aA.vd (B3.o.gu G.o H.o)) (((((Kept.refl (λb=>b=w.heap.size\/b=w.heap.size+1) w3).setCell (p:=⟨w,0,b_⟩) (.inl (.inl rfl)) _).setCell (p:=⟨w,1,b_⟩) (.inl (.inl rfl)) _).setCell (p:=⟨w+1,0,b_⟩) (.inl (.inr rfl)) _).setCell (p:=⟨w+1,1,b_⟩) (.inl (.inr rfl)) _)⟩
  have HD:=Z_ (mR (st:=⟨pow,fs⟩) (fs:=eJ s ls.flatten fs) b0);rw[I_ b0];clear b0;have B4:=Z_ (B3.o.store (dec pow) (a_ A fs.length c));generalize dec pow=pd at*;have M4:=Z_ (FD (S:=S) B4.o s);have cm:((w3.setCell ⟨w,0,b_⟩ (e_ d_ pd)).setCell ⟨w,1,b_⟩ (a_ A fs.length c)).heap.size=w3.heap.size:=by simp
  rw[cm]at M4;have en:=B3.o.size;have ct:w.heap.size<w3.heap.size:=by omega
  have cv:¬w.heap.size=w3.heap.size:=by omega
  have cx:¬w3.heap.size=w.heap.size:=by omega
  go_wp2_with fail;refine(uI pd _ fs S _ (λb hb=>by have:=G.o b hb;have:=M4.o.box.size;omega) (M4.o.box.gu G.o H.o) s).mono ?_;rintro e w5 ⟨cB,dv⟩;have M5:=Z_ (M4.o.go G.o cB);clear ct cv cx;generalize w3.heap.size=bx at*;clear K M O U V X Y Z cB M4 B4 B3 cm;rcases dv with⟨i,hi,rfl,a1⟩|⟨rfl,a1⟩
  ·obtain⟨f,hf⟩:∃f,fs[i]=f:=⟨_,rfl⟩
   rw[hf]at a1;obtain⟨b,off,Au,cu,rfl,hb,g0,g1,g2,g3⟩:=kI H.o G.o M5.o.box.below hi hf;have bk:x_ (f.data.length<=1000000):=Z_ (c6.o f (jA a1));have bm:x_ (eJ s ls.flatten fs=aq af.name ⟨f.name,f.data++ls.flatten,f.safe⟩ fs):=Z_ (by unfold eJ;rw[a1,vT a1]);obtain⟨⟨K,M,O,U,V,X,Y,Z⟩,⟨q0,q1,q2,q3,q4,q5⟩,n0,n1,n2,n3⟩:=M5.o.cells;have M6:=Z_ (M5.o.kU G.o (x':=f) (Au':=Au) (cu':=cu) ((((Kept.refl (λb=>b=bx) w5).setCell (p:=⟨bx,0,b_⟩) (.inl rfl) (g_ ⟨f.name.toArray⟩)).setCell (p:=⟨bx,1,b_⟩) (.inl rfl) (a_ Au f.data.length cu)).setCell (p:=⟨bx,2,b_⟩) (.inl rfl) (e_ d_ f.safe)) (da (da (da M5.o.hx _).1 _).2.1 _).2.2 (g3.ae λb b5=>⟨⟨.inl b5,by have:=G.o b b5;have:=M5.o.lo;omega⟩,M5.o.box.below.block b (G.o b b5)⟩));clear g3 hf a1 M5;go_upto_region 11 with fail;clear K M O U V X Y Z q0 q1 q2 q3 q4 q5 n0 n1 n2 n3;obtain⟨⟨K,M,O,U,V,X,Y,Z⟩,⟨q0,q1,q2,q3,q4,q5⟩,n0,n1,n2,n3⟩:=M6.o.cells;have bn:=Z_ (M6.o.copy G.o bk.o);go_wp2_with fail;refine bn.o.mono ?_;rintro e w6 ⟨W0,u,rfl,M0,HU,HB6⟩;clear K M O U V X Y Z q0 q1 q2 q3 q4 q5 n0 n1 n2 n3 bn M6;go_wp2_with fail
   go_loopw [11,12] (λu i wr=>∃k:Nat,k<=vs.length/\i=e_ d_ k/\x_ (Par.Own wr W0 5 u (l_ (f.data++(ls.take k).flatten)))/\x_ (n_ W0 W0 wr)) (λ_ i _=>vs.length - (intOf i).toNat)
   case atStart=>exact⟨0,by omega,rfl,Z_ (by simpa using HU.o),HB6⟩
   obtain⟨k,hk,rfl,ad,t⟩:=hrel;have ak:n_ w w wr:=M0.o.box.below.trans (t.o.mono (by have:=M0.o.box.size;omega));have bo:=t.o.size;by_cases I:k<vs.length
   ·obtain⟨b,off,rfl,hb,hcell⟩:=b3.o O_
    have bb:wr.cell? ⟨b,off+k,b_⟩=c_ (vs.getD k (u_ o_)):=by
     rw[ak.cell (p:=⟨b,off+k,b_⟩) hb,hcell k I,s_,w_ I];rfl
    have bp:bw wr w (vs.getD k (u_ o_)) (l_ (ls.getD k [])):=bw.below (B:=w.heap.size) (ch.o k (by rw[<-av.o];exact I)) ak;have eb:=mW ls k (by rw[<-av.o];exact I);have bt:=Z_ (fW ls k (by rw[<-av.o];exact I));clear hcell ak;generalize vs.getD k (u_ o_)=uk at*;generalize ls.getD k []=L at*;have J:=ad.o;have cE:=bk.o;go_wp2_with (at_builtin;refine aE _ rfl _ _ _ rfl W0 5 _ fD _ _ rfl J _ _ _ rfl bp (aZ _) ?c1 ?c2 ?_)
    case c1=>rw[t_,t_,p_];omega
    case c2=>exact bo
    intro v3 w3 j bB bN;have b6:=Z_ (dW t.o J bB bo);rw[<-byteCells_append,JU,<-bt.o]at j;have cc:=Z_ j;clear j bB bN J bp bb bt ad;go_wp2;go_roundw
    case rel=>exact⟨k+1,by omega,by go_num,cc,b6⟩
    simp[intOf];omega
   have cd:k=vs.length:=by omega
   have hU:=ad.o;rw[cd,av.o,JO]at hU;obtain⟨D,hD⟩:=N_ (f.data++ls.flatten);rw[<-hD]at hU bm;clear hD ad;obtain⟨A7,c7,bO⟩:=hU.form;rw[t_]at bO;subst bO;have bR:=Z_ (M0.o.go G.o t.o);have M7:=Z_ (M0.o.uR G.o t.o rfl hU);obtain⟨⟨K,M,O,U,V,X,Y,Z⟩,⟨q0,q1,q2,q3,q4,q5⟩,n0,n1,n2,n3⟩:=bR.o.cells;have a2:=Z_ (M7.o.with G.o (aA.vd (M7.o.box.gu G.o H.o)) O_);clear hU M0 bR t ak;simp only at a2;go_wp2_with fail;refine a2.o.mono ?_;rintro e w8 ⟨A8,n8,c8,rfl,ba⟩;clear K M O U V X Y Z q0 q1 q2 q3 q4 q5 n0 n1 n2 n3 a2 M7;obtain⟨K,M,O,U,V,X,Y,Z⟩:=ba.o.2.box.cells;go_wp2;refine C_ (v:=J_ #[JI #[e_ d_ pd,a_ A8 n8 c8],e_ d_ 0]) (by simp[results,Tryz.results14,go_sem,K,M,O,U,V,X,Y,Z]) rfl ?_;rw[bg.o,HD.o,bm.o];exact⟨_,rfl,ba.o.2.done G.o ba.o.1 (((Kept.refl (λb=>b=w.heap.size\/b=w.heap.size+1) w8).setCell (p:=⟨w+1,0,b_⟩) (.inl (.inr rfl)) _).setCell (p:=⟨w+1,1,b_⟩) (.inl (.inr rfl)) _)⟩
  obtain⟨d0,b2⟩:∃d:List UInt8,d=[]:=⟨_,rfl⟩;have bk:x_ (d0.length<=1000000):=Z_ (by rw[b2];simp);have bm:x_ (eJ s ls.flatten fs=aq af.name ⟨s,d0++ls.flatten,0⟩ fs):=Z_ (by unfold eJ;rw[a1,b2];rfl);rw[<-b2]at M5;clear a1 b2;obtain⟨⟨K,M,O,U,V,X,Y,Z⟩,⟨q0,q1,q2,q3,q4,q5⟩,n0,n1,n2,n3⟩:=M5.o.cells;have bn:=Z_ (M5.o.copy G.o bk.o);go_wp2_with fail;refine bn.o.mono ?_;rintro e w6 ⟨W0,u,rfl,M0,HU,HB6⟩;clear K M O U V X Y Z q0 q1 q2 q3 q4 q5 n0 n1 n2 n3 bn M5;go_wp2_with fail
  go_loopw [11,12] (λu i wr=>∃k:Nat,k<=vs.length/\i=e_ d_ k/\x_ (Par.Own wr W0 5 u (l_ (d0++(ls.take k).flatten)))/\x_ (n_ W0 W0 wr)) (λ_ i _=>vs.length - (intOf i).toNat)
  case atStart=>exact⟨0,by omega,rfl,Z_ (by simpa using HU.o),HB6⟩
  obtain⟨k,hk,rfl,ad,t⟩:=hrel;have ak:n_ w w wr:=M0.o.box.below.trans (t.o.mono (by have:=M0.o.box.size;omega));have bo:=t.o.size;by_cases I:k<vs.length
  ·obtain⟨b,off,rfl,hb,hcell⟩:=b3.o O_
   have bb:wr.cell? ⟨b,off+k,b_⟩=c_ (vs.getD k (u_ o_)):=by
    rw[ak.cell (p:=⟨b,off+k,b_⟩) hb,hcell k I,s_,w_ I];rfl
   have bp:bw wr w (vs.getD k (u_ o_)) (l_ (ls.getD k [])):=bw.below (B:=w.heap.size) (ch.o k (by rw[<-av.o];exact I)) ak;have eb:=mW ls k (by rw[<-av.o];exact I);have bt:=Z_ (fW ls k (by rw[<-av.o];exact I));clear hcell ak;generalize vs.getD k (u_ o_)=uk at*;generalize ls.getD k []=L at*;have J:=ad.o;have cE:=bk.o;go_wp2_with (at_builtin;refine aE _ rfl _ _ _ rfl W0 5 _ fD _ _ rfl J _ _ _ rfl bp (aZ _) ?c1 ?c2 ?_)
   case c1=>rw[t_,t_,p_];omega
   case c2=>exact bo
   intro v3 w3 j bB bN;have b6:=Z_ (dW t.o J bB bo);rw[<-byteCells_append,JU,<-bt.o]at j;have cc:=Z_ j;clear j bB bN J bp bb bt ad;go_wp2;go_roundw
   case rel=>exact⟨k+1,by omega,by go_num,cc,b6⟩
   simp[intOf];omega
  have cd:k=vs.length:=by omega
  have hU:=ad.o;rw[cd,av.o,JO]at hU;obtain⟨D,hD⟩:=N_ (d0++ls.flatten);rw[<-hD]at hU bm;clear hD ad;obtain⟨A7,c7,bO⟩:=hU.form;rw[t_]at bO;subst bO;have bR:=Z_ (M0.o.go G.o t.o);have M7:=Z_ (M0.o.uR G.o t.o rfl hU);obtain⟨⟨K,M,O,U,V,X,Y,Z⟩,⟨q0,q1,q2,q3,q4,q5⟩,n0,n1,n2,n3⟩:=bR.o.cells;have a2:=Z_ (M7.o.with G.o (aA.vd (M7.o.box.gu G.o H.o)) O_);clear hU M0 bR t ak;simp only at a2;go_wp2_with fail;refine a2.o.mono ?_;rintro e w8 ⟨A8,n8,c8,rfl,ba⟩;clear K M O U V X Y Z q0 q1 q2 q3 q4 q5 n0 n1 n2 n3 a2 M7;obtain⟨K,M,O,U,V,X,Y,Z⟩:=ba.o.2.box.cells;go_wp2;refine C_ (v:=J_ #[JI #[e_ d_ pd,a_ A8 n8 c8],e_ d_ 0]) (by simp[results,Tryz.results14,go_sem,K,M,O,U,V,X,Y,Z]) rfl ?_;rw[bg.o,HD.o,bm.o];exact⟨_,rfl,ba.o.2.done G.o ba.o.1 (((Kept.refl (λb=>b=w.heap.size\/b=w.heap.size+1) w8).setCell (p:=⟨w+1,0,b_⟩) (.inl (.inr rfl)) _).setCell (p:=⟨w+1,1,b_⟩) (.inl (.inr rfl)) _)⟩
theorem Gc{W w:j_}{S:Nat->Prop}{pd:Int}{A:Option Kb}{c:Nat}{fs:List af}{s:List UInt8}{f:af}{z0 t D:m_}
  (h:H_ h_ 52 #[JI #[e_ d_ pd,a_ A fs.length c],g_ ⟨s.toArray⟩] ((W.alloc (f_ #[z0,t,D] 109)).drew) λe j=>∃(i b off:Nat) (G:Option Kb) (I:Nat),e=k_ (e_ d_ (i:Nat))/\A=c_ ⟨b,off,b_⟩/\
   x_ (n_ ((W.alloc (f_ #[z0,t,D] 109)).drew).heap.size ((W.alloc (f_ #[z0,t,D] 109)).drew) j/\dU w pd (a_ A fs.length c) j)/\
   (i<fs.length/\b<j.heap.size/\w.heap.size<j.heap.size/\¬w.heap.size=j.heap.size/\¬j.heap.size=w.heap.size/\¬b=j.heap.size/\(∀k,w.heap.size<=k->¬b=k))/\
   (j.cell? ⟨w,0,b_⟩=c_ (e_ d_ pd)/\j.cell? ⟨w,1,b_⟩=c_ (a_ A fs.length c)/\j.frozen? ⟨w,0,b_⟩=o_/\j.frozen? ⟨w,1,b_⟩=o_/\
    j.cell? ⟨w+1,0,b_⟩=c_ (e_ d_ 0)/\j.cell? ⟨w+1,1,b_⟩=c_ (a_ b_ 0 0)/\j.frozen? ⟨w+1,0,b_⟩=o_/\j.frozen? ⟨w+1,1,b_⟩=o_)/\
   j.cell? ⟨b,off+i*3,b_⟩=c_ (g_ ⟨f.name.toArray⟩)/\j.cell? ⟨b,off+i*3+1,b_⟩=c_ (a_ G f.data.length I)/\j.cell? ⟨b,off+i*3+2,b_⟩=c_ (e_ d_ f.safe)/\x_ (a8 S w (a_ G f.data.length I) (l_ f.data))):
  H_ h_ 52 #[JI #[e_ d_ pd,a_ A fs.length c],g_ ⟨s.toArray⟩] ((W.alloc (f_ #[z0,t,D] 109)).drew) λe j=>∃(i b off:Nat) (G:Option Kb) (I:Nat),e=k_ (e_ d_ (i:Nat))/\A=c_ ⟨b,off,b_⟩/\
   x_ (n_ ((W.alloc (f_ #[z0,t,D] 109)).drew).heap.size ((W.alloc (f_ #[z0,t,D] 109)).drew) j/\dU w pd (a_ A fs.length c) j)/\
   x_ (j.heap[W.heap.size]?=c_ (f_ #[z0,t,D] 109 (0,0)))/\
   (j.cell? ⟨W,0,b_⟩=c_ z0/\j.cell? ⟨W,1,b_⟩=c_ t/\j.cell? ⟨W,2,b_⟩=c_ D/\j.frozen? ⟨W,0,b_⟩=o_/\j.frozen? ⟨W,1,b_⟩=o_/\j.frozen? ⟨W,2,b_⟩=o_)/\
   (i<fs.length/\b<j.heap.size/\w.heap.size<j.heap.size/\¬w.heap.size=j.heap.size/\¬j.heap.size=w.heap.size/\¬b=j.heap.size/\(∀k,w.heap.size<=k->¬b=k))/\
   (j.cell? ⟨w,0,b_⟩=c_ (e_ d_ pd)/\j.cell? ⟨w,1,b_⟩=c_ (a_ A fs.length c)/\j.frozen? ⟨w,0,b_⟩=o_/\j.frozen? ⟨w,1,b_⟩=o_/\
    j.cell? ⟨w+1,0,b_⟩=c_ (e_ d_ 0)/\j.cell? ⟨w+1,1,b_⟩=c_ (a_ b_ 0 0)/\j.frozen? ⟨w+1,0,b_⟩=o_/\j.frozen? ⟨w+1,1,b_⟩=o_)/\
   j.cell? ⟨b,off+i*3,b_⟩=c_ (g_ ⟨f.name.toArray⟩)/\j.cell? ⟨b,off+i*3+1,b_⟩=c_ (a_ G f.data.length I)/\j.cell? ⟨b,off+i*3+2,b_⟩=c_ (e_ d_ f.safe)/\x_ (a8 S w (a_ G f.data.length I) (l_ f.data)):=by
 refine h.mono ?_;rintro e j ⟨i,b,off,G,I,h1,h2,J,M,O,U,V,X,Y⟩;have K:=zm J.o.1;exact⟨i,b,off,G,I,h1,h2,J,Z_ K,gL K,M,O,U,V,X,Y⟩
theorem lV(st:St)(hp:st.aa<=9223372036854775807)(v:m_)(S:Nat->Prop)(w:j_)(hS:∀b,S b->b<w.heap.size)(h:aA S w v st.files)(s:List UInt8)(hs:s.length<=9223372036854775807)(hl:st.files.length<=900000)(hd:∀f∈st.files,f.data.length<=1000000)(n:Int):
  H_ h_ 100 #[JI #[e_ d_ st.aa,v],g_ ⟨s.toArray⟩,e_ d_ n] w (qo w S (aF st s n)):=by
 obtain⟨pow,fs⟩:=st;simp only at hp h hl hd⊢;obtain⟨A,c,rfl,hc,hm⟩:=h.form;have H:=Z_ h;clear h;have j:=Z_ hS;clear hS;have bO:=Z_ hd;clear hd;have b1:=dU.start w pow A fs.length c;have bR:x_ (∀b,S b->b<(Zz w pow A fs.length c).heap.size):=Z_ λb hb=>by have:=j.o b hb;rw[dg];omega
 have bg:=fZ pow _ fs S _ bR.o (b1.gu j.o H.o) s hs true;have B1:=Z_ b1;have Z:=Z_ bg;clear b1 bg;cases hf:bH ⟨pow,fs⟩ s with
 |error er=>
  obtain⟨e1,e2⟩:=mM hf;have t:=Z_ (kY (m:=n) hf);simp only at e1;rw[e1]at Z;clear e1 hf;go_enter Tryz.func100,Tryz.ntmps100;go_wp2_with fail;refine Z.o.mono ?_;rintro e w2 ⟨rfl,ad⟩;have B2:=Z_ (B1.o.go ad);obtain⟨D,G,I,J,K,M,O,U⟩:=B2.o.cells;clear ad Z B1;go_wp2;refine C_ (v:=J_ #[JI #[e_ d_ pow,a_ A fs.length c],e_ d_ er]) (by simp[results,MD,go_sem,D,G,I,J,K,M,O,U]) rfl ?_;rw[t.o];exact⟨_,rfl,B2.o.done j.o (aA.vd (B2.o.gu j.o H.o)) (((Kept.refl (λb=>b=w.heap.size\/b=w.heap.size+1) w2).setCell (p:=⟨w+1,0,b_⟩) (.inl (.inr rfl)) _).setCell (p:=⟨w+1,1,b_⟩) (.inl (.inr rfl)) _)⟩
 |ok f=>
  obtain⟨e1,e2⟩:=qB hf;have HF:=Z_ hf;simp only at e1 e2;rw[e1]at Z;have b0:=Z_ e2;have cp:f.data.length<=1000000:=bO.o f (jA e2);clear e1 e2 hf;go_enter Tryz.func100,Tryz.ntmps100;go_wp2_with fail;refine Z.o.mono ?_;rintro e w2 ⟨rfl,ad⟩;have B4:=Z_ (B1.o.go ad);obtain⟨D,G,I,J,K,M,O,U⟩:=B4.o.cells;clear ad Z B1;have a1:=Z_ (xZ (λW hW=>lE (S:=S) (pow:=pow) (s:=s) (f:=f) (λb hb=>by have:=j.o b hb;have:=hW.size;omega) (hW.gu j.o H.o) b0.o) j.o H.o);go_upto_region 4 with fail
  go_cut [9] (λpx wx=>∃bx,px=.pointer (c_ ⟨bx,0,b_⟩)/\x_ (EG w S pow (a_ A fs.length c) f bx wx))
  case first=>
   have b2:w.heap.size+2<=w2.heap.size:=B4.o.size;have ck:w.heap.size<w2.heap.size:=by omega
   have cl:¬w.heap.size=w2.heap.size:=by omega
   have cm:¬w2.heap.size=w.heap.size:=by omega
   have b3:=Z_ (a1.o _ (B4.o.go ((JG _ w2).drew)));have b5:=Z_ (Gc (a1.o _ (B4.o.go (((JG _ w2).alloc L_ (f_ #[g_ ⟨#[]⟩,a_ b_ 0 0,e_ d_ 0] 109)).drew))));clear a1;go_region_with (first
    |(go_at_call 52;refine b5.o.mono ?_;rintro e w5 ⟨i,b,off,Au,cu,rfl,rfl,HB5,b6,⟨q0,q1,q2,q3,q4,q5⟩,⟨hi,hb,cc,bj,bk,bm,bn⟩,⟨y0,y1,y2,y3,y4,y5,y6,y7⟩,g0,g1,g2,G3⟩)
    |(go_at_call 52;refine b3.o.mono ?_;rintro e w5 ⟨i,b,off,Au,cu,rfl,rfl,HB5,⟨hi,hb,cc,bj,bk,bm,bn⟩,⟨y0,y1,y2,y3,y4,y5,y6,y7⟩,g0,g1,g2,G3⟩))
   all_goals(
    go_wp2_with fail;go_meet;first
    |exact⟨_,rfl,Z_ (zn HB5.o.2 G3.o)⟩
    |exact⟨_,rfl,Z_ (zo HB5.o.2 G3.o b2 b6.o)⟩)
  obtain⟨bx,rfl,HX⟩:=hcut;clear D G I J K M O U a1 B4;obtain⟨Au,cu,hM⟩:=HX.o.Jk j.o;have M0:=Z_ hM;clear hM HX;obtain⟨⟨D,G,I,J,K,M,O,U⟩,⟨q0,q1,q2,q3,q4,q5⟩,n0,n1,n2,n3⟩:=M0.o.cells;by_cases cd:n<0
  ·have t:=Z_ (eR HF.o (.inl cd))
   go_wp2;refine C_ (v:=J_ #[JI #[e_ d_ pow,a_ A fs.length c],e_ d_ 12]) (by simp[results,MD,go_sem,D,G,I,J,K,M,O,U]) rfl ?_;rw[t.o];exact⟨_,rfl,M0.o.done j.o (aA.vd (M0.o.box.gu j.o H.o)) (((Kept.refl (λb=>b=w.heap.size\/b=w.heap.size+1) _).setCell (p:=⟨w+1,0,b_⟩) (.inl (.inr rfl)) _).setCell (p:=⟨w+1,1,b_⟩) (.inl (.inr rfl)) _)⟩
  by_cases cf:(f.data.length:Int)<n
  ·have t:=Z_ (eR HF.o (.inr cf))
   go_wp2;refine C_ (v:=J_ #[JI #[e_ d_ pow,a_ A fs.length c],e_ d_ 12]) (by simp[results,MD,go_sem,D,G,I,J,K,M,O,U]) rfl ?_;rw[t.o];exact⟨_,rfl,M0.o.done j.o (aA.vd (M0.o.box.gu j.o H.o)) (((Kept.refl (λb=>b=w.heap.size\/b=w.heap.size+1) _).setCell (p:=⟨w+1,0,b_⟩) (.inl (.inr rfl)) _).setCell (p:=⟨w+1,1,b_⟩) (.inl (.inr rfl)) _)⟩
  obtain⟨k,rfl⟩:∃k:Nat,n=(k:Int):=⟨n.toNat,by omega⟩;have bo:k<=f.data.length:=by omega
  have t:=Z_ (ji HF.o bo);clear HF;go_wp2_with fail;refine(jF pow hp A fs.length c _).mono ?_;rintro e w3 ⟨rfl,bp⟩;have M3:=Z_ (M0.o.go j.o bp);clear D G I J K M O U q0 q1 q2 q3 q4 q5 n0 n1 n2 n3 bp M0;obtain⟨⟨D,G,I,J,K,M,O,U⟩,⟨q0,q1,q2,q3,q4,q5⟩,n0,n1,n2,n3⟩:=M3.o.cells;by_cases a2:pow=0
  ·subst a2
   have HD:=Z_ (jw (st:=⟨0,fs⟩) (fs:=aq af.name ⟨f.name,f.data.take k,min f.safe k⟩ fs) rfl);rw[G_ rfl,show dec 0=0 from rfl];go_wp2;refine C_ (v:=J_ #[JI #[e_ d_ 0,a_ A fs.length c],e_ d_ 13]) (by simp[results,MD,go_sem,D,G,I,J,K,M,O,U]) rfl ?_;rw[t.o,HD.o];exact⟨_,rfl,M3.o.done j.o (aA.vd (M3.o.box.gu j.o H.o)) (((((Kept.refl (λb=>b=w.heap.size\/b=w.heap.size+1) w3).setCell (p:=⟨w,0,b_⟩) (.inl (.inl rfl)) _).setCell (p:=⟨w,1,b_⟩) (.inl (.inl rfl)) _).setCell (p:=⟨w+1,0,b_⟩) (.inl (.inr rfl)) _).setCell (p:=⟨w+1,1,b_⟩) (.inl (.inr rfl)) _)⟩
  have HD:=Z_ (mR (st:=⟨pow,fs⟩) (fs:=aq af.name ⟨f.name,f.data.take k,min f.safe k⟩ fs) a2);rw[I_ a2];clear a2;have M4:=Z_ (M3.o.store j.o (dec pow) (a_ A fs.length c));generalize dec pow=pd at*;obtain⟨cg,bb⟩:=tz (M4.o.Ih j.o) k bo;have ct:∀w',(Instr.slice 24 (a_ Au f.data.length cu) b_ (c_ (e_ d_ (k:Int))) b_).run h_ w'=.ok (a_ Au k cu) w':=λw'=>gJ Au f.data.length cu k w' cg
  have bt:=Z_ bb;clear bb;have bB:(f.data.take k).length=k:=by simp;omega
  have ba:=Z_ bB;clear bB;go_wp2_with fail;refine(cY _ (f.data.take k) _ _ bt.o L_ (by rw[ba.o];omega)).mono ?_;rintro e w5 ⟨u,rfl,hu,bd⟩;obtain⟨A5,c5,ch⟩:=hu.form;subst ch;have M5:=Z_ (M4.o.uR j.o bd (by rw[t_]) hu);have bf:=Z_ (M4.o.go j.o bd);clear hu bd M4 M3 bt D G I J K M O U q0 q1 q2 q3 q4 q5 n0 n1 n2 n3;obtain⟨⟨D,G,I,J,K,M,O,U⟩,⟨q0,q1,q2,q3,q4,q5⟩,n0,n1,n2,n3⟩:=bf.o.cells;have bN:(l_ (f.data.take k)).length=k:=by rw[t_,ba.o]
  rw[bN]at M5⊢;clear bN;by_cases cv:(k:Int)<(f.safe:Int)
  ·have M6:=Z_ (M5.o.Fm j.o k)
   have V:min f.safe k=k:=by omega
   have ak:=Z_ V;clear V;have X:=M6.o.with j.o (aA.vd (M6.o.box.gu j.o H.o)) O_;simp only[ba.o]at X;have av:=Z_ X;clear X;go_wp2_with fail;refine av.o.mono ?_;rintro e w6 ⟨A6,n6,c6,rfl,Y⟩;clear D G I J K M O U q0 q1 q2 q3 q4 q5 n0 n1 n2 n3 av M6 M5 bf;obtain⟨D,G,I,J,K,M,O,U⟩:=Y.o.2.box.cells;go_wp2;refine C_ (v:=J_ #[JI #[e_ d_ pd,a_ A6 n6 c6],e_ d_ 0]) (by simp[results,MD,go_sem,D,G,I,J,K,M,O,U]) rfl ?_;rw[t.o,HD.o,ak.o];exact⟨_,rfl,Y.o.2.done j.o Y.o.1 (((Kept.refl (λb=>b=w.heap.size\/b=w.heap.size+1) w6).setCell (p:=⟨w+1,0,b_⟩) (.inl (.inr rfl)) _).setCell (p:=⟨w+1,1,b_⟩) (.inl (.inr rfl)) _)⟩
  have V:min f.safe k=f.safe:=by omega
  have ak:=Z_ V;clear V;have X:=M5.o.with j.o (aA.vd (M5.o.box.gu j.o H.o)) O_;simp only[ba.o]at X;have av:=Z_ X;clear X;go_wp2_with fail;refine av.o.mono ?_;rintro e w6 ⟨A6,n6,c6,rfl,Y⟩;clear D G I J K M O U q0 q1 q2 q3 q4 q5 n0 n1 n2 n3 av M5 bf;obtain⟨D,G,I,J,K,M,O,U⟩:=Y.o.2.box.cells;go_wp2;refine C_ (v:=J_ #[JI #[e_ d_ pd,a_ A6 n6 c6],e_ d_ 0]) (by simp[results,MD,go_sem,D,G,I,J,K,M,O,U]) rfl ?_;rw[t.o,HD.o,ak.o];exact⟨_,rfl,Y.o.2.done j.o Y.o.1 (((Kept.refl (λb=>b=w.heap.size\/b=w.heap.size+1) w6).setCell (p:=⟨w+1,0,b_⟩) (.inl (.inr rfl)) _).setCell (p:=⟨w+1,1,b_⟩) (.inl (.inr rfl)) _)⟩
theorem xd(st:St)(hp:st.aa<=9223372036854775807)(v:m_)(S:Nat->Prop)(w:j_)(hS:∀b,S b->b<w.heap.size)(h:aA S w v st.files)(s t:List UInt8)(hs:s.length<=9223372036854775807)(ht:t.length<=9223372036854775807)(hl:st.files.length<=900000)(hd:∀f∈st.files,f.data.length<=1000000):
  H_ h_ 116 #[JI #[e_ d_ st.aa,v],g_ ⟨s.toArray⟩,g_ ⟨t.toArray⟩] w (qo w S (db st s t)):=by
 obtain⟨pow,fs⟩:=st;simp only at hp h hl hd⊢;obtain⟨A,c,rfl,hc,hm⟩:=h.form;have H:=Z_ h;clear h;have j:=Z_ hS;clear hS;have b5:=Z_ hd;clear hd;have b1:=dU.start w pow A fs.length c;have b6:x_ (∀b,S b->b<(Zz w pow A fs.length c).heap.size):=Z_ λb hb=>by have:=j.o b hb;rw[dg];omega
 have Z:=Z_ b1;clear b1;have bm:x_ (∀W,dU w pow (a_ A fs.length c) W->H_ h_ 91 #[g_ ⟨s.toArray⟩] W λe w'=>e=k_ (u_ (bS s))/\x_ (dU w pow (a_ A fs.length c) w')):=Z_ (λW hW=>(oB ⟨s.toArray⟩ W hs).mono (by rintro e w' ⟨rfl,rfl⟩;exact⟨by simp,Z_ hW⟩));have bn:x_ (∀W,dU w pow (a_ A fs.length c) W->H_ h_ 91 #[g_ ⟨t.toArray⟩] W λe w'=>e=k_ (u_ (bS t))/\x_ (dU w pow (a_ A fs.length c) w')):=Z_ (λW hW=>(oB ⟨t.toArray⟩ W ht).mono (by rintro e w' ⟨rfl,rfl⟩;exact⟨by simp,Z_ hW⟩));go_enter Tryz.func116,Tryz.ntmps116;go_wp2_with fail;refine(bm.o _ Z.o).mono ?_;rintro e w0 ⟨rfl,B0⟩;obtain⟨G,I,J,K,M,O,U,V⟩:=B0.o.cells;clear Z;cases ha:bS s with
 |false=>
  have D:=Z_ (gw (st:=⟨pow,fs⟩) (b:=t) (.inl ha));clear ha;go_wp2;refine C_ (v:=J_ #[JI #[e_ d_ pow,a_ A fs.length c],e_ d_ 10]) (by simp[results,Tryz.results116,go_sem,G,I,J,K,M,O,U,V]) rfl ?_;rw[D.o];exact⟨_,rfl,B0.o.done j.o (aA.vd (B0.o.gu j.o H.o)) (((Kept.refl (λb=>b=w.heap.size\/b=w.heap.size+1) _).setCell (p:=⟨w+1,0,b_⟩) (.inl (.inr rfl)) _).setCell (p:=⟨w+1,1,b_⟩) (.inl (.inr rfl)) _)⟩
 |true=>
  go_wp2_with fail;refine(bn.o _ B0.o).mono ?_;rintro e w1 ⟨rfl,Z⟩;clear G I J K M O U V;obtain⟨G,I,J,K,M,O,U,V⟩:=Z.o.cells;clear B0;cases X:bS t with
  |false=>
   have D:=Z_ (gw (st:=⟨pow,fs⟩) (a:=s) (.inr X));clear ha X;go_wp2;refine C_ (v:=J_ #[JI #[e_ d_ pow,a_ A fs.length c],e_ d_ 10]) (by simp[results,Tryz.results116,go_sem,G,I,J,K,M,O,U,V]) rfl ?_;rw[D.o];exact⟨_,rfl,Z.o.done j.o (aA.vd (Z.o.gu j.o H.o)) (((Kept.refl (λb=>b=w.heap.size\/b=w.heap.size+1) _).setCell (p:=⟨w+1,0,b_⟩) (.inl (.inr rfl)) _).setCell (p:=⟨w+1,1,b_⟩) (.inl (.inr rfl)) _)⟩
  |true=>
   have bb:=fZ pow _ fs S w1 (λb hb=>by have:=j.o b hb;have:=Z.o.size;omega) (Z.o.gu j.o H.o) s hs true;have Y:=Z_ bb;clear bb;cases hf:bH ⟨pow,fs⟩ s with
   |error er=>
    obtain⟨e1,e2⟩:=mM hf;have D:=Z_ (nH ha X hf);simp only at e1;rw[e1]at Y;clear e1 hf ha X;go_wp2_with fail;refine Y.o.mono ?_;rintro e w2 ⟨rfl,ad⟩;have B2:=Z_ (Z.o.go ad);clear G I J K M O U V ad Y Z;obtain⟨G,I,J,K,M,O,U,V⟩:=B2.o.cells;go_wp2;refine C_ (v:=J_ #[JI #[e_ d_ pow,a_ A fs.length c],e_ d_ er]) (by simp[results,Tryz.results116,go_sem,G,I,J,K,M,O,U,V]) rfl ?_;rw[D.o];exact⟨_,rfl,B2.o.done j.o (aA.vd (B2.o.gu j.o H.o)) (((Kept.refl (λb=>b=w.heap.size\/b=w.heap.size+1) w2).setCell (p:=⟨w+1,0,b_⟩) (.inl (.inr rfl)) _).setCell (p:=⟨w+1,1,b_⟩) (.inl (.inr rfl)) _)⟩
   |ok f=>
    obtain⟨e1,e2⟩:=qB hf;have D:=Z_ (kX ha X hf);simp only at e1 e2;rw[e1]at Y;have bo:=Z_ e2;clear e1 e2 hf ha X;go_wp2_with fail;refine Y.o.mono ?_;rintro e w2 ⟨rfl,ad⟩;have B2:=Z_ (Z.o.go ad);clear G I J K M O U V ad Y Z;obtain⟨G,I,J,K,M,O,U,V⟩:=B2.o.cells;go_wp2_with fail;refine(jF pow hp A fs.length c w2).mono ?_;rintro e w3 ⟨rfl,bd⟩;have B3:=Z_ (B2.o.go bd);clear G I J K M O U V bd B2;obtain⟨G,I,J,K,M,O,U,V⟩:=B3.o.cells;by_cases ak:pow=0
    ·subst ak
     have HD:=Z_ (jw (st:=⟨0,fs⟩) (fs:=aq af.name ⟨t,f.data,f.safe⟩ (an af.name s fs)) rfl);rw[G_ rfl,show dec 0=0 from rfl];go_wp2;refine C_ (v:=J_ #[JI #[e_ d_ 0,a_ A fs.length c],e_ d_ 13]) (by simp[results,Tryz.results116,go_sem,G,I,J,K,M,O,U,V]) rfl ?_;rw[D.o,HD.o];exact⟨_,rfl,B3.o.done j.o (aA.vd (B3.o.gu j.o H.o)) (((((Kept.refl (λb=>b=w.heap.size\/b=w.heap.size+1) w3).setCell (p:=⟨w,0,b_⟩) (.inl (.inl rfl)) _).setCell (p:=⟨w,1,b_⟩) (.inl (.inl rfl)) _).setCell (p:=⟨w+1,0,b_⟩) (.inl (.inr rfl)) _).setCell (p:=⟨w+1,1,b_⟩) (.inl (.inr rfl)) _)⟩
    have HD:=Z_ (mR (st:=⟨pow,fs⟩) (fs:=aq af.name ⟨t,f.data,f.safe⟩ (an af.name s fs)) ak);rw[I_ ak];clear ak;have B4:=Z_ (B3.o.store (dec pow) (a_ A fs.length c));generalize dec pow=pd at*;have a1:=Z_ (xZ (λW hW=>lE (S:=S) (pow:=pd) (s:=s) (f:=f) (λb hb=>by have:=j.o b hb;have:=hW.size;omega) (hW.gu j.o H.o) bo.o) j.o H.o);go_upto_region 9 with fail
    go_cut [9] (λpx wx=>∃bx,px=.pointer (c_ ⟨bx,0,b_⟩)/\x_ (EG w S pd (a_ A fs.length c) f bx wx))
    case first=>
     have bp:w.heap.size+2<=w3.heap.size:=B3.o.size;have b0:w.heap.size<w3.heap.size:=by omega
     have b2:¬w.heap.size=w3.heap.size:=by omega
     have b3:¬w3.heap.size=w.heap.size:=by omega
     go_region_with (first
      | (go_at_call 52;refine (a1.o _ (B4.o.go (B_.drew))).mono ?_;rintro e w5 ⟨i,b,off,Au,cu,rfl,rfl,HB5,⟨hi,hb,bt,bf,bg,bj,bk⟩,⟨y0,y1,y2,y3,y4,y5,y6,y7⟩,g0,g1,g2,G3⟩)
         |(go_at_call 52;refine(a1.o _ (B4.o.go ((B_.alloc L_ _).drew))).mono ?_;rintro e w5 ⟨i,b,off,Au,cu,rfl,rfl,HB5,⟨hi,hb,bt,bf,bg,bj,bk⟩,⟨y0,y1,y2,y3,y4,y5,y6,y7⟩,g0,g1,g2,G3⟩;have av:=zm HB5.o.1;try simp at av;have bB:=Z_ av;obtain⟨q0,q1,q2,q3,q4,q5⟩:=gL av;clear av))
     all_goals(
      go_wp2_with fail;go_meet;first
      |exact⟨_,rfl,Z_ (zn HB5.o.2 G3.o)⟩
      |exact⟨_,rfl,Z_ (zo HB5.o.2 G3.o bp bB.o)⟩)
    obtain⟨bx,rfl,HX⟩:=hcut;clear G I J K M O U V a1 B4 B3;obtain⟨Au,cu,hM⟩:=HX.o.Jk j.o;have M0:=Z_ hM;clear hM HX;obtain⟨⟨G,I,J,K,M,O,U,V⟩,⟨q0,q1,q2,q3,q4,q5⟩,n0,n1,n2,n3⟩:=M0.o.cells;have M1:=Z_ (M0.o.setName j.o t);have bN:x_ (∀W,XM w S pd (a_ A fs.length c) ⟨t,f.data,f.safe⟩ Au cu bx W->H_ h_ 92 #[JI #[e_ d_ pd,a_ A fs.length c],g_ ⟨s.toArray⟩] W λe w6=>∃A6 n6 c6,e=k_ (JI #[e_ d_ pd,a_ A6 n6 c6])/\x_ (aA (jo S w w6) w6 (a_ A6 n6 c6) (an af.name s fs)/\XM w S pd (a_ A fs.length c) ⟨t,f.data,f.safe⟩ Au cu bx w6)):=Z_ (λW hW=>by
     have hz:=hW.box.size;refine(j9 pd _ fs S W (λb hb=>by have:=j.o b hb;omega) (hW.box.gu j.o H.o) s O_).mono ?_;rintro e w6 ⟨v6,rfl,bO,bR⟩;have R:=aA.Gu bO hz;obtain⟨A6,c6,rfl,-,-⟩:=R.form;exact⟨A6,_,c6,rfl,Z_ ⟨R,hW.go j.o bR⟩⟩)
    have cc:(an af.name s fs).length<=fs.length:=KX _ _;generalize an af.name s fs=gs at*;go_upto_region 11 with fail;go_region_with (first
     |(go_at_call 92;refine(bN.o _ (M1.o.go j.o (B_.drew))).mono ?_;rintro e w6 ⟨A6,n6,c6,rfl,a2⟩;obtain⟨⟨y0,y1,y2,y3,y4,y5,y6,y7⟩,⟨g0,g1,g2,g3,g4,g5⟩,m0,m1,m2,m3⟩:=a2.o.2.cells;simp only at g0 g1 g2)
     |(go_at_call 53;refine(a2.o.2.with j.o a2.o.1 O_).mono ?_;rintro e w7 ⟨A7,n7,c7,rfl,ba⟩;obtain⟨z0,z1,z2,z3,z4,z5,z6,z7⟩:=ba.o.2.box.cells))
    all_goals(
     go_wp2_with fail;refine C_ (v:=J_ #[JI #[e_ d_ pd,a_ A7 n7 c7],e_ d_ 0]) (by simp[results,Tryz.results116,go_sem,z0,z1,z2,z3,z4,z5,z6,z7]) rfl ?_;rw[D.o,HD.o];exact⟨_,rfl,ba.o.2.done j.o ba.o.1 (((Kept.refl (λb=>b=w.heap.size\/b=w.heap.size+1) w7).setCell (p:=⟨w+1,0,b_⟩) (.inl (.inr rfl)) _).setCell (p:=⟨w+1,1,b_⟩) (.inl (.inr rfl)) _)⟩)
open Go.RowKit Go.Lib Go.Vfs Go.Par Go.Shelf
theorem nk(st:St)(v:m_)(S:Nat->Prop)(w:j_)(hS:∀b,S b->b<w.heap.size)(h:aA S w v st.files)(s:List UInt8)(hn:bS s=true)(hs:s.length<=9223372036854775807)(U:∀f∈st.files,f.data.length<=1000000):
  H_ h_ 95 #[JI #[e_ d_ st.aa,v],g_ ⟨s.toArray⟩] w λe w'=>e=k_ (u_ (bV st.files s))/\n_ w w w':=by
 obtain⟨A,c,rfl,-⟩:=h.form;have J:=nR.start w st.aa (a_ A st.files.length c);have j:=Z_ (oC st _ S _ (λb K=>by have:=hS b K;have:=J.size;omega) (J.gu hS h) s hs U);have M:=Z_ J.below;have O:=J.below.size;clear J;clear U h;obtain⟨B,G⟩:=N_ (bV st.files s);have V:=Z_ G;rw[<-G];cases I:aj af.name s st.files with
 |none=>
  rw[gK hn I]at j;have K:B=false:=by rw[G,dt,I];rfl
  subst K;clear I G V;go_enter Tryz.func95,Tryz.ntmps95;go_wp2_with fail;refine j.o.mono ?_;rintro e X ⟨t,rfl⟩;have D:=Z_ (M.o.trans (t.mono O));clear t j;go_wp2;go_ret;exact⟨rfl,D.o⟩
 |some f=>
  rw[dY hn I]at j;have K:B=true:=by rw[G,dt,I];rfl
  subst K;clear I G V;go_enter Tryz.func95,Tryz.ntmps95;go_wp2_with fail;refine j.o.mono ?_;rintro e X ⟨t,u,rfl,hu⟩;obtain⟨Y,Z,rfl⟩:=hu.form;have D:=Z_ (M.o.trans (t.mono O));clear t j hu;go_wp2;go_ret;exact⟨rfl,D.o⟩
theorem cM{w:j_}{b:Nat}{xs:Array m_}{t:TypeId}(h:w.heap[b]?=c_ (f_ xs t (0,0)))(i:Nat)(x:m_):(w.setCell ⟨b,i,b_⟩ x).heap[b]?=c_ (f_ (xs.setIfInBounds i x) t (0,0)):=by
 have j:=F_ h;have D:w.heap[b]=f_ xs t (0,0):=by simpa[Kz j]using h
 show(w.heap.modify b _)[b]?=_;rw[Kz (by simpa using j),LF,D];rfl
structure mD(w:j_)(pw:Int)(v:m_)(pj:Int)(vj:m_)(gen:Int)(bv rv:m_)(W:j_):Prop where
 below:n_ w.heap.size w W
 size:w.heap.size+3<=W.heap.size
 h0:W.heap[w.heap.size]?=c_ (f_ #[e_ d_ pw,v] 33 (0,0))
 h1:W.heap[w.heap.size+1]?=c_ (f_ #[e_ d_ 0,a_ b_ 0 0,e_ d_ 0,a_ b_ 0 0,a_ b_ 0 0] 44 (0,0))
 h2:W.heap[w.heap.size+2]?=c_ (f_ #[e_ d_ pj,vj,e_ d_ gen,bv,rv] 44 (0,0))
section
variable{w W W':j_}{pw pj gen:Int}{v vj bv rv:m_}
theorem mD.go(h:mD w pw v pj vj gen bv rv W)(j:n_ W W W'):mD w pw v pj vj gen bv rv W':=by
 have D:=h.size;have t:=j.size;exact⟨h.below.trans (j.mono O_),by omega,(j.block _ O_).trans h.h0,(j.block _ O_).trans h.h1,(j.block _ O_).trans h.h2⟩
theorem mD.cells(h:mD w pw v pj vj gen bv rv W):
  W.cell? ⟨w,0,b_⟩=c_ (e_ d_ pw)/\W.cell? ⟨w,1,b_⟩=c_ v/\
  W.cell? ⟨w+1+1,0,b_⟩=c_ (e_ d_ pj)/\W.cell? ⟨w+1+1,1,b_⟩=c_ vj/\W.cell? ⟨w+1+1,2,b_⟩=c_ (e_ d_ gen)/\W.cell? ⟨w+1+1,3,b_⟩=c_ bv/\W.cell? ⟨w+1+1,4,b_⟩=c_ rv/\
  W.frozen? ⟨w+1+1,0,b_⟩=o_/\W.frozen? ⟨w+1+1,1,b_⟩=o_/\W.frozen? ⟨w+1+1,2,b_⟩=o_/\W.frozen? ⟨w+1+1,3,b_⟩=o_/\W.frozen? ⟨w+1+1,4,b_⟩=o_/\W.frozen? ⟨w+1,0,b_⟩=o_/\W.frozen? ⟨w+1,1,b_⟩=o_/\W.frozen? ⟨w+1,2,b_⟩=o_/\W.frozen? ⟨w+1,3,b_⟩=o_/\W.frozen? ⟨w+1,4,b_⟩=o_/\W.cell? ⟨w+1,0,b_⟩=c_ (e_ d_ 0)/\W.cell? ⟨w+1,1,b_⟩=c_ (a_ b_ 0 0)/\W.cell? ⟨w+1,2,b_⟩=c_ (e_ d_ 0)/\W.cell? ⟨w+1,3,b_⟩=c_ (a_ b_ 0 0)/\W.cell? ⟨w+1,4,b_⟩=c_ (a_ b_ 0 0):=by
 have h0:=h.h0;have h1:=h.h1;have h2:=h.h2;simp[World.cell?,World.frozen?,h0,h1,h2]
theorem mD.start(w:j_)(pw:Int)(A:Option Kb)(n c:Nat):mD w pw (a_ A n c) pw (a_ A n c) 0 (a_ b_ 0 0) (a_ b_ 0 0)
  (((w.alloc (f_ #[e_ d_ pw,a_ A n c] 33)).alloc (f_ #[e_ d_ 0,a_ b_ 0 0,e_ d_ 0,a_ b_ 0 0,a_ b_ 0 0] 44)).alloc (f_ #[e_ d_ pw,a_ A n c,e_ d_ 0,a_ b_ 0 0,a_ b_ 0 0] 44)):=by
 have D:=ah w (f_ #[e_ d_ pw,a_ A n c] 33);have t:=ah (w.alloc (f_ #[e_ d_ pw,a_ A n c] 33)) (f_ #[e_ d_ 0,a_ b_ 0 0,e_ d_ 0,a_ b_ 0 0,a_ b_ 0 0] 44);have j:=ah ((w.alloc (f_ #[e_ d_ pw,a_ A n c] 33)).alloc (f_ #[e_ d_ 0,a_ b_ 0 0,e_ d_ 0,a_ b_ 0 0,a_ b_ 0 0] 44)) (f_ #[e_ d_ pw,a_ A n c,e_ d_ 0,a_ b_ 0 0,a_ b_ 0 0] 44);have G:(w.alloc (f_ #[e_ d_ pw,a_ A n c] 33)).heap.size=w.heap.size+1:=by simp
 have I:((w.alloc (f_ #[e_ d_ pw,a_ A n c] 33)).alloc (f_ #[e_ d_ 0,a_ b_ 0 0,e_ d_ 0,a_ b_ 0 0,a_ b_ 0 0] 44)).heap.size=w.heap.size+2:=by simp
 refine⟨(D.trans (t.mono O_)).trans (j.mono O_),by simp,?_,?_,?_⟩
 ·rw[j.block _ O_,t.block _ O_];exact r_ w _
 ·rw[j.block _ O_,<-G];exact r_ _ _
 rw[show w.heap.size+2=((w.alloc (f_ #[e_ d_ pw,a_ A n c] 33)).alloc (f_ #[e_ d_ 0,a_ b_ 0 0,e_ d_ 0,a_ b_ 0 0,a_ b_ 0 0] 44)).heap.size from I.symm];exact r_ _ _
theorem mD.kept(h:mD w pw v pj vj gen bv rv W)(t:Kept (λb=>b=w.heap.size+2) W W'){D j:Int}{G I J:m_}(h2:W'.heap[w.heap.size+2]?=c_ (f_ #[e_ d_ D,G,e_ d_ j,I,J] 44 (0,0))):mD w pw v D G j I J W':=by
 have M:=h.size;have K:=t.size;exact⟨h.below.trans (t.below O_ (λk t=>by omega)),by omega,(t.block _ O_ O_).trans h.h0,(t.block _ O_ O_).trans h.h1,h2⟩
theorem mD.files(h:mD w pw v pj vj gen bv rv W)(j:Int)(t:m_):mD w pw v j t gen bv rv ((W.setCell ⟨w+1+1,0,b_⟩ (e_ d_ j)).setCell ⟨w+1+1,1,b_⟩ t):=by
 refine h.kept (((Kept.refl (λb=>b=w.heap.size+2) W).setCell (p:=⟨w+2,0,b_⟩) (.inl rfl) _).setCell (p:=⟨w+2,1,b_⟩) (.inl rfl) _) ?_;have h2:=cM (cM h.h2 0 (e_ d_ j)) 1 t;simpa using h2
theorem mD.base(h:mD w pw v pj vj gen bv rv W)(g:Int)(u:m_):mD w pw v pj vj g u rv ((W.setCell ⟨w+1+1,2,b_⟩ (e_ d_ g)).setCell ⟨w+1+1,3,b_⟩ u):=by
 refine h.kept (((Kept.refl (λb=>b=w.heap.size+2) W).setCell (p:=⟨w+2,2,b_⟩) (.inl rfl) _).setCell (p:=⟨w+2,3,b_⟩) (.inl rfl) _) ?_;have h2:=cM (cM h.h2 2 (e_ d_ g)) 3 u;simpa using h2
theorem mD.GX(h:mD w pw v pj vj gen bv rv W){n:Nat}(hn:w.heap.size+3<=n)(j:n_ n W W'):mD w pw v pj vj gen bv rv W':=by
 have D:=h.size;have t:=j.size;exact⟨h.below.trans (j.mono O_),by omega,(j.block _ O_).trans h.h0,(j.block _ O_).trans h.h1,(j.block _ O_).trans h.h2⟩
theorem mD.rest(h:mD w pw v pj vj gen bv rv W)(u:m_):mD w pw v pj vj gen bv u (W.setCell ⟨w+1+1,4,b_⟩ u):=by
 refine h.kept ((Kept.refl (λb=>b=w.heap.size+2) W).setCell (p:=⟨w+2,4,b_⟩) (.inl rfl) _) ?_;have h2:=cM h.h2 4 u;simpa using h2
def mH(S:Nat->Prop)(w W:j_)(b:Nat):Prop:=S b\/(w.heap.size+3<=b/\b<W.heap.size)
end
variable{S F:Nat->Prop}{w W W':j_}{v:m_}{ls:List (List UInt8)}
theorem aA.IY{fs:List af}(h:aA S W v fs):aA (mH S w W) W v fs:=h.sub λb j=>.inl j
theorem aA.FN{fs:List af}(h:aA (fO S W W') W' v fs)(t:w.heap.size+3<=W.heap.size):aA (mH S w W') W' v fs:=h.sub λb j=>by
 rcases j with j|j
 ·exact .inl j
 exact .inr ⟨by omega,j.2⟩
theorem aA.wF{fs:List af}(h:aA (mH S w W) W v fs)(hS:∀b,S b->b<w.heap.size)(J:w.heap.size+3<=W.heap.size)(t:Kept F W W')(G:∀k,F k->w.heap.size<=k/\k<w.heap.size+3):aA (mH S w W') W' v fs:=h.ae λb j=>by
 have I:=t.size;rcases j with j|j
 ·have:=hS b j
  exact⟨.inl j,t.block b O_ (λD=>by have:=G b D;omega)⟩
 exact⟨.inr ⟨j.1,by omega⟩,t.block b j.2 (λD=>by have:=G b D;omega)⟩
theorem aA.o8{fs:List af}(h:aA (mH S w W) W v fs)(hS:∀b,S b->b<w.heap.size)(D:w.heap.size+3<=W.heap.size)(j:n_ W W W'):aA (mH S w W') W' v fs:=h.ae λb hm=>by
 have t:=j.size;rcases hm with hm|hm
 ·have:=hS b hm
  exact⟨.inl hm,j.block b O_⟩
 exact⟨.inr ⟨hm.1,by omega⟩,j.block b hm.2⟩
theorem GL(w W:j_)(a0 j:m_):Kept (λb=>b=w.heap.size+2) W ((W.setCell ⟨w+1+1,0,b_⟩ a0).setCell ⟨w+1+1,1,b_⟩ j):=
 ((Kept.refl (λb=>b=w.heap.size+2) W).setCell (p:=⟨w+2,0,b_⟩) (.inl rfl) _).setCell (p:=⟨w+2,1,b_⟩) (.inl rfl) _
theorem Cf(w W:j_)(a0 j:m_):Kept (λb=>b=w.heap.size+2) W ((W.setCell ⟨w+1+1,2,b_⟩ a0).setCell ⟨w+1+1,3,b_⟩ j):=
 ((Kept.refl (λb=>b=w.heap.size+2) W).setCell (p:=⟨w+2,2,b_⟩) (.inl rfl) _).setCell (p:=⟨w+2,3,b_⟩) (.inl rfl) _
def zy(w W:j_)(b:Nat):Prop:=w.heap.size+3<=b/\b<W.heap.size
theorem al.nil(S:Nat->Prop)(w:j_):al S w (a_ b_ 0 0) []:=⟨[],rfl,⟨b_,0,rfl,by simp,by simp,λh=>by simp at h⟩,λi hi=>by simp at hi⟩
theorem al.up(h:al (zy w W) W v ls)(j:n_ W W W'):al (zy w W') W' v ls:=h.ae λb hm=>⟨⟨hm.1,by have:=j.size;have:=hm.2;omega⟩,j.block b hm.2⟩
theorem al.Iy(h:al (zy w W) W v ls)(j:Kept F W W')(t:∀k,F k->k<w.heap.size+3):al (zy w W') W' v ls:=h.ae λb hm=>⟨⟨hm.1,by have:=j.size;have:=hm.2;omega⟩,j.block b hm.2 (λD=>by have:=t b D;have:=hm.1;omega)⟩
def mc(w:j_)(S:Nat->Prop)(r:St×Except Int (Nat×List (List UInt8)×List (List UInt8)))(e:Ending)(w':j_):Prop:=
 ∃(v' bv rv:m_) (gen er:Int),e=k_ (J_ #[JI #[e_ d_ r.1.aa,v',e_ d_ gen,bv,rv],e_ d_ er])/\aA (fO S w w') w' v' r.1.files/\n_ w.heap.size w w'/\(∃A m c,bv=a_ A m c)/\(∃A m c,rv=a_ A m c)/\match r.2 with
  | .error n=>er=n
  | .ok x=>er=0/\gen=(x.1:Nat)/\al (λb=>w.heap.size<=b/\b<w'.heap.size) w' bv x.2.1/\al (λb=>w.heap.size<=b/\b<w'.heap.size) w' rv x.2.2
theorem BS(w W:j_)(a0 j t a3 a4:m_):Kept (λb=>b=w.heap.size+1) W (((((W.setCell ⟨w+1,0,b_⟩ a0).setCell ⟨w+1,1,b_⟩ j).setCell ⟨w+1,2,b_⟩ t).setCell ⟨w+1,3,b_⟩ a3).setCell ⟨w+1,4,b_⟩ a4):=
 (((((Kept.refl (λb=>b=w.heap.size+1) W).setCell (p:=⟨w+1,0,b_⟩) (.inl rfl) _).setCell (p:=⟨w+1,1,b_⟩) (.inl rfl) _).setCell (p:=⟨w+1,2,b_⟩) (.inl rfl) _).setCell (p:=⟨w+1,3,b_⟩) (.inl rfl) _).setCell (p:=⟨w+1,4,b_⟩) (.inl rfl) _
theorem aA.DI{fs:List af}(h:aA (mH S w W) W v fs)(hS:∀b,S b->b<w.heap.size)(D:w.heap.size+3<=W.heap.size)(t:Kept (λb=>b=w.heap.size+1) W W'):aA (fO S w W') W' v fs:=(h.wF hS D t (λk t=>by omega)).sub λb j=>by
 rcases j with j|j
 ·exact .inl j
 exact .inr ⟨by omega,j.2⟩
section
variable{w W:j_}{S:Nat->Prop}{pw:Int}{v:m_}{T:St}{A1 Ab Ar:Option Kb}{n1 c1 nb cb nr cr g:Nat}{base ps:List (List UInt8)}
theorem Ib(t:mD w pw v T.aa (a_ A1 n1 c1) g (a_ Ab nb cb) (a_ Ar nr cr) W)(hS:∀b,S b->b<w.heap.size)(G:aA (mH S w W) W (a_ A1 n1 c1) T.files)(I:al (zy w W) W (a_ Ab nb cb) base)(J:al (zy w W) W (a_ Ar nr cr) ps):
  mc w S (T,.ok (g,base,ps)) (k_ (J_ #[JI #[e_ d_ T.aa,a_ A1 n1 c1,e_ d_ g,a_ Ab nb cb,a_ Ar nr cr],e_ d_ 0])) (((((W.setCell ⟨w+1,0,b_⟩ (e_ d_ T.aa)).setCell ⟨w+1,1,b_⟩ (a_ A1 n1 c1)).setCell ⟨w+1,2,b_⟩ (e_ d_ g)).setCell ⟨w+1,3,b_⟩ (a_ Ab nb cb)).setCell ⟨w+1,4,b_⟩ (a_ Ar nr cr)):=by
 have j:=BS w W (e_ d_ T.aa) (a_ A1 n1 c1) (e_ d_ g) (a_ Ab nb cb) (a_ Ar nr cr);have up:∀{v:m_} {ls:List (List UInt8)},al (zy w W) W v ls->al (λb=>w.heap.size<=b/\b<((((((W.setCell ⟨w+1,0,b_⟩ (e_ d_ T.aa)).setCell ⟨w+1,1,b_⟩ (a_ A1 n1 c1)).setCell ⟨w+1,2,b_⟩ (e_ d_ g)).setCell ⟨w+1,3,b_⟩ (a_ Ab nb cb)).setCell ⟨w+1,4,b_⟩ (a_ Ar nr cr))).heap.size) (((((W.setCell ⟨w+1,0,b_⟩ (e_ d_ T.aa)).setCell ⟨w+1,1,b_⟩ (a_ A1 n1 c1)).setCell ⟨w+1,2,b_⟩ (e_ d_ g)).setCell ⟨w+1,3,b_⟩ (a_ Ab nb cb)).setCell ⟨w+1,4,b_⟩ (a_ Ar nr cr)) v ls:=λh=>(al.Iy h j (λk K=>by omega)).ae λb D=>⟨⟨by have:=D.1;omega,D.2⟩,rfl⟩
 exact⟨_,_,_,_,_,rfl,aA.DI G hS t.size j,t.below.trans (j.below (by have:=t.size;omega) (λk K=>by omega)),⟨_,_,_,rfl⟩,⟨_,_,_,rfl⟩,rfl,rfl,up I,up J⟩
theorem Ia(er:Int)(t:mD w pw v T.aa (a_ A1 n1 c1) g (a_ Ab nb cb) (a_ Ar nr cr) W)(hS:∀b,S b->b<w.heap.size)(D:aA (mH S w W) W (a_ A1 n1 c1) T.files):
  mc w S (T,.error er) (k_ (J_ #[JI #[e_ d_ T.aa,a_ A1 n1 c1,e_ d_ g,a_ Ab nb cb,a_ Ar nr cr],e_ d_ er])) (((((W.setCell ⟨w+1,0,b_⟩ (e_ d_ T.aa)).setCell ⟨w+1,1,b_⟩ (a_ A1 n1 c1)).setCell ⟨w+1,2,b_⟩ (e_ d_ g)).setCell ⟨w+1,3,b_⟩ (a_ Ab nb cb)).setCell ⟨w+1,4,b_⟩ (a_ Ar nr cr)):=by
 have j:=BS w W (e_ d_ T.aa) (a_ A1 n1 c1) (e_ d_ g) (a_ Ab nb cb) (a_ Ar nr cr);exact⟨_,_,_,_,_,rfl,aA.DI D hS t.size j,t.below.trans (j.below (by have:=t.size;omega) (λk G=>by omega)),⟨_,_,_,rfl⟩,⟨_,_,_,rfl⟩,rfl⟩
end
variable{k d:Nat}
theorem jY(st:St)(t:List UInt8)(j:t≠a6):aj af.name t (bC st).1.files=aj af.name t st.files:=by
 unfold bC;split
 ·unfold cD
  split
  ·rfl
  unfold cT;split
  ·rfl
  exact dJ j _
 rfl
theorem uC(st:St)(hp:st.aa<=9223372036854775807)(t:st.files.length<=900000)(G:∀f∈st.files,f.data.length<=800000):(bC st).1.aa<=9223372036854775807/\(bC st).1.files.length<=900000/\∀f∈(bC st).1.files,f.data.length<=1000000:=by
 have j:∀f∈st.files,f.data.length<=1000000:=λf D=>by have:=G f D;omega
 unfold bC;split
 ·unfold cD
  split
  ·exact⟨hp,t,j⟩
  unfold cT;split
  ·exact⟨hp,t,j⟩
  refine⟨?_,?_,λf D=>j f (cq.1 D).1⟩
  ·simp only[dec];split<;>omega
  refine Kj ?_ t;unfold an;exact KX _ _
 exact⟨hp,t,j⟩
theorem DR(st:St)(hp:st.aa<=9223372036854775807)(A:Option Kb)(c:Nat)(S:Nat->Prop)(w:j_)(hS:∀b,S b->b<w.heap.size)(h:aA S w (a_ A st.files.length c) st.files)(hl:st.files.length<=900000)(hd:∀f∈st.files,f.data.length<=800000):
  H_ h_ 56 #[JI #[e_ d_ st.aa,a_ A st.files.length c]] w (mc w S (aW st)):=by
 have h0:=mD.start w st.aa A st.files.length c;have e8:∀f∈st.files,f.data.length<=1000000:=λf hf=>by have:=hd f hf;omega
 have bm:=Z_ (nk st _ S _ (λb t=>by have:=hS b t;have:=h0.size;omega) (h.below hS h0.below) a6 (by decide) (by decide) e8);have b2:x_ (∀W pj vj gen bv rv,mD w st.aa (a_ A st.files.length c) pj vj gen bv rv W->H_ h_ 96 #[JI #[e_ d_ st.aa,a_ A st.files.length c],g_ ⟨#[110,101,120,116]⟩] W (qo W S (cD st a6))):=Z_ λW pj vj gen bv rv hW=>
  xc st hp _ S W (λb t=>by have:=hS b t;have:=hW.size;omega) (h.below hS hW.below) a6 (by decide) hl
 have e9:x_ (∀W pj vj gen bv rv,mD w st.aa (a_ A st.files.length c) pj vj gen bv rv W->H_ h_ 95 #[JI #[e_ d_ st.aa,a_ A st.files.length c],g_ ⟨#[98,97,115,101]⟩] W λe w'=>e=k_ (u_ (bV st.files dj))/\n_ W W w'):=Z_ λW pj vj gen bv rv hW=>
  nk st _ S W (λb t=>by have:=hS b t;have:=hW.size;omega) (h.below hS hW.below) dj (by decide) (by decide) e8
 have H0:=Z_ h0;have H:=Z_ h;have HS:=Z_ hS;have b5:=Z_ hd;clear h0 h hS hd e8;obtain⟨P,hP⟩:=N_ (mc w S (aW st));rw[<-hP];have HP:=Z_ hP;clear hP;by_cases bN:(bC st).2=0
 case neg=>
  have hh:bV st.files a6=true:=by
   cases h:bV st.files a6 with
   |true=>rfl
   |false=>exfalso;apply bN;unfold bC;rw[h];rfl
  have e1:bC st=cD st a6:=by unfold bC;rw[G_ hh]
  have ch:x_ (aW st=((bC st).1,.error (bC st).2)):=Z_ (by unfold aW;rw[I_ bN]);rw[<-e1]at b2;rw[hh]at bm;have k8:((bC st).2 !=0)=true:=by simpa using bN
  clear bN hh e1 e9;generalize bC st=j at*;go_enter Tryz.func56,Tryz.ntmps56;go_wp2_with fail;refine bm.o.mono ?_;rintro e w1 ⟨rfl,ck⟩;have a1:=Z_ (H0.o.go ck);clear ck bm H0;obtain⟨x0,x1,x2,x3,x4,x5,x6,x7,x8,x9,D,G,I,J,K,M,O,U,V,X,Y,Z⟩:=a1.o.cells;go_wp2_with fail;refine(b2.o w1 _ _ _ _ _ a1.o).mono ?_;rintro e w2 ⟨v2,rfl,bO,bd⟩;obtain⟨A2,c2,rfl,-⟩:=bO.form;have bn:=((a1.o.go bd).go (ah w2 (f_ #[e_ d_ j.1.aa,a_ A2 j.1.files.length c2] 33)));have cl:=Z_ (bn.files j.1.aa (a_ A2 j.1.files.length c2));obtain⟨y0,y1,y2,y3,y4,y5,y6,y7,y8,y9,g2,g3,g5,g6,g7,g8,ha,hg,ho,hq,ht,hv⟩:=bn.cells;have bo:=Z_ (aA.FN bO a1.o.size);have lf:=Z_ bn;have cm:=Z_ (show w.heap.size+3<=w2.heap.size by have:=a1.o.size;have:=bd.size;omega);clear bn bO bd x0 x1 x2 x3 x4 x5 x6 x7 x8 x9 D G I J K M O U V X Y Z;go_wp2;refine C_ (v:=J_ #[JI #[e_ d_ j.1.aa,a_ A2 j.1.files.length c2,e_ d_ 0,a_ b_ 0 0,a_ b_ 0 0],e_ d_ j.2]) (by simp[results,Tryz.results56,go_sem,y0,y1,y2,y3,y4,y5,y6,y7,y8,y9,g2,g3,g5,g6,g7,g8,ha,hg,ho,hq,ht,hv]) rfl ?_;rw[HP.o,ch.o];have bj:=BS w ((((w2.alloc (f_ #[e_ d_ j.1.aa,a_ A2 j.1.files.length c2] 33)).setCell ⟨w+1+1,0,b_⟩ (e_ d_ j.1.aa)).setCell ⟨w+1+1,1,b_⟩ (a_ A2 j.1.files.length c2))) (e_ d_ j.1.aa) (a_ A2 j.1.files.length c2) (e_ d_ 0) (a_ b_ 0 0) (a_ b_ 0 0);refine⟨_,_,_,_,_,rfl,aA.DI ?_ HS.o cl.o.size bj,cl.o.below.trans (bj.below (by have:=cl.o.size;omega) (λk hk=>by omega)),⟨_,_,_,rfl⟩,⟨_,_,_,rfl⟩,rfl⟩;exact(aA.o8 bo.o HS.o cm.o (ah w2 _)).wF HS.o (by have:=cm.o;simp;omega) (GL w _ _ _) (λk hk=>by omega)
 obtain⟨j,bf⟩:=N_ ((bC st).1);have ch:x_ (aW st=match cw j with
  |none=>(j,.error 200)
  |some x=>if(bX j x.1).2=0 then((bX j x.1).1,.ok (x.1,x.2,cO j x.1))else((bX j x.1).1,.error (bX j x.1).2)):=Z_ (by unfold aW;rw[G_ bN,<-bf];cases cw j<;>rfl)
 have hz:x_ (bV st.files a6=o_->j=st):=Z_ λh=>by rw[bf];unfold bC;rw[h];rfl
 have hA:x_ (bV st.files a6=true->cD st a6=(j,0)):=Z_ λh=>by
  rw[bf,<-bN];unfold bC;rw[h];rfl
 have hB:x_ (aj af.name dj j.files=aj af.name dj st.files):=Z_ (by rw[bf];exact jY st _ (by decide));have fb:x_ (aj af.name aK j.files=aj af.name aK st.files):=Z_ (by rw[bf];exact jY st _ (by decide));have cp:x_ (j.aa<=9223372036854775807/\j.files.length<=900000/\∀f∈j.files,f.data.length<=1000000):=Z_ (by rw[bf];exact uC st hp hl b5.o);clear bf bN;go_enter Tryz.func56,Tryz.ntmps56;go_wp2_with fail;refine bm.o.mono ?_;rintro e w1 ⟨rfl,ck⟩;have a1:=Z_ (H0.o.go ck);clear ck bm H0;obtain⟨x0,x1,x2,x3,x4,x5,x6,x7,x8,x9,D,G,I,J,K,M,O,U,V,X,Y,Z⟩:=a1.o.cells
 go_upto_if 24 with fail
 go_cut [] (λW=>∃A1 c1,x_ (mD w st.aa (a_ A st.files.length c) j.aa (a_ A1 j.files.length c1) 0 (a_ b_ 0 0) (a_ b_ 0 0) W)/\x_ (aA (mH S w W) W (a_ A1 j.files.length c1) j.files))
 case first=>
  cases hh:bV st.files a6
  ·have e1:=hz.o hh
   subst e1;have HI:=Z_ (aA.IY (w:=w) (h:=(H.o.below HS.o a1.o.below)));clear hh;go_wp2;go_meet;exact⟨_,_,a1,HI⟩
  have HR:=Z_ (b2.o w1 _ _ _ _ _ a1.o);rw[hA.o hh]at HR;clear hh;go_wp2_with fail;refine HR.o.mono ?_;rintro e w2 ⟨v2,rfl,bO,bd⟩;obtain⟨A2,c2,rfl,-⟩:=bO.form;have bn:=((a1.o.go bd).go (ah w2 (f_ #[e_ d_ j.aa,a_ A2 j.files.length c2] 33)));have cl:=Z_ (bn.files j.aa (a_ A2 j.files.length c2));clear x0 x1 x2 x3 x4 x5 x6 x7 x8 x9 D G I J K M O U V X Y Z;obtain⟨y0,y1,y2,y3,y4,y5,y6,y7,y8,y9,g2,g3,g5,g6,g7,g8,ha,hg,ho,hq,ht,hv⟩:=bn.cells;have bo:=Z_ (aA.FN bO a1.o.size);have cm:=Z_ (show w.heap.size+3<=w2.heap.size by have:=a1.o.size;have:=bd.size;omega);clear bn bO bd;go_wp2;go_meet;exact⟨_,_,cl,Z_ ((aA.o8 bo.o HS.o cm.o (ah w2 _)).wF HS.o (by have:=cm.o;simp;omega) (GL w _ _ _) (λk hk=>by omega))⟩
 obtain⟨A1,c1,ct,hD⟩:=hcut;obtain⟨W1,rfl⟩:=N_ (wc);clear x0 x1 x2 x3 x4 x5 x6 x7 x8 x9 D G I J K M O U V X Y Z b2 hz hA a1;obtain⟨x0,x1,x2,x3,x4,x5,x6,x7,x8,x9,D,G,I,J,K,M,O,U,V,X,Y,Z⟩:=ct.o.cells;go_wp2_with fail;refine(e9.o W1 _ _ _ _ _ ct.o).mono ?_;rintro e w2 ⟨rfl,bd⟩;have bp:=Z_ (ct.o.go bd);have bo:=Z_ (aA.o8 hD.o HS.o ct.o.size bd);clear x0 x1 x2 x3 x4 x5 x6 x7 x8 x9 D G I J K M O U V X Y Z bd ct hD e9;obtain⟨x0,x1,x2,x3,x4,x5,x6,x7,x8,x9,D,G,I,J,K,M,O,U,V,X,Y,Z⟩:=bp.o.cells;have bt:=Z_ (oC st _ S w2 (λb t=>by have:=HS.o b t;have:=bp.o.size;omega) (H.o.below HS.o bp.o.below) dj (by decide) (λf hf=>by have:=b5.o f hf;omega));have ak:=Z_ (show cw j=match aj af.name dj st.files with|none=>c_ (0,[])|some f=>bP f.data from by unfold cw;rw[hB.o];cases aj af.name dj st.files<;>rfl);clear hB
 go_upto_if 37 with fail
 go_cut [] (λW=>∃(g:Nat) (base:List (List UInt8)) (Ab:Option Kb) (nb cb:Nat),x_ (cw j=c_ (g,base))/\x_ (mD w st.aa (a_ A st.files.length c) j.aa (a_ A1 j.files.length c1) g (a_ Ab nb cb) (a_ b_ 0 0) W)/\x_ (aA (mH S w W) W (a_ A1 j.files.length c1) j.files)/\x_ (al (zy w W) W (a_ Ab nb cb) base))
 case first=>
  cases bx:aj af.name dj st.files with
  |none=>
   have hh:bV st.files dj=false:=by rw[dt,bx];rfl
   rw[bx]at ak;rw[hh];clear hh bx bt;go_wp2;go_meet;exact⟨0,[],b_,0,0,ak,bp,bo,Z_ (D4 _ _)⟩
  |some f=>
   have hh:bV st.files dj=true:=by rw[dt,bx];rfl
   rw[bx]at ak;rw[dY (by decide) bx]at bt;have hF:=b5.o f (jA bx);rw[hh];clear hh bx;obtain⟨d,ba⟩:=N_ (f.data);simp only at ak;unfold kz at bt;simp only at bt;rw[<-ba]at ak bt hF;clear ba;go_wp2_with fail;refine bt.o.mono ?_;rintro e w3 ⟨fi,u3,rfl,fr⟩;obtain⟨A3,c3,hG⟩:=fr.form;rw[t_]at hG;subst hG;have ad:=Z_ (bp.o.go fi);have bR:=Z_ (aA.o8 bo.o HS.o bp.o.size fi);have b6:=Z_ (CU A3 c3 d w3 (Own.dH fr) hF);clear fi fr bt x0 x1 x2 x3 x4 x5 x6 x7 x8 x9 D G I J K M O U V X Y Z bp bo;obtain⟨x0,x1,x2,x3,x4,x5,x6,x7,x8,x9,D,G,I,J,K,M,O,U,V,X,Y,Z⟩:=ad.o.cells;cases c9:bP d with
   |none=>
    rw[c9]at b6 ak;have df:x_ (aW st=(j,.error 200)):=Z_ (by rw[ch.o,ak.o]);clear c9;go_wp2_with fail;refine b6.o.mono ?_;rintro e w4 ⟨bb,g4,u4,⟨A4,m4,c4,rfl⟩,rfl⟩;have a2:=Z_ (ad.o.go bb);have cc:=Z_ (aA.o8 bR.o HS.o ad.o.size bb);clear bb b6 x0 x1 x2 x3 x4 x5 x6 x7 x8 x9 D G I J K M O U V X Y Z ad bR;obtain⟨x0,x1,x2,x3,x4,x5,x6,x7,x8,x9,D,G,I,J,K,M,O,U,V,X,Y,Z⟩:=a2.o.cells;go_wp2;refine C_ (v:=J_ #[JI #[e_ d_ j.aa,a_ A1 j.files.length c1,e_ d_ 0,a_ b_ 0 0,a_ b_ 0 0],e_ d_ 200]) (by simp[results,Tryz.results56,go_sem,x0,x1,x2,x3,x4,x5,x6,x7,x8,x9,D,G,I,J,K,M,O,U,V,X,Y,Z]) rfl ?_;rw[HP.o,df.o];have bj:=BS w w4 (e_ d_ j.aa) (a_ A1 j.files.length c1) (e_ d_ 0) (a_ b_ 0 0) (a_ b_ 0 0);exact⟨_,_,_,_,_,rfl,aA.DI cc.o HS.o a2.o.size bj,a2.o.below.trans (bj.below (by have:=a2.o.size;omega) (λk hk=>by omega)),⟨_,_,_,rfl⟩,⟨_,_,_,rfl⟩,rfl⟩
   |some x=>
    obtain⟨g,ps⟩:=x;rw[c9]at b6 ak;clear c9;go_wp2_with fail;refine b6.o.mono ?_;rintro e w4 ⟨bb,u4,rfl,dv⟩;simp only at dv;simp only;obtain⟨A4,m4,c4,rfl⟩:∃A m c,u4=a_ A m c:=by
     obtain⟨vs,-,⟨A',c',e,-⟩,-⟩:=dv;exact⟨_,_,_,e⟩
    have a2:=Z_ (ad.o.go bb);have cc:=Z_ (aA.o8 bR.o HS.o ad.o.size bb);have kf:x_ (al (zy w w4) w4 (a_ A4 m4 c4) ps):=Z_ (dv.ae λb t=>⟨⟨by have:=ad.o.size;omega,t.2⟩,rfl⟩);clear bb dv b6 x0 x1 x2 x3 x4 x5 x6 x7 x8 x9 D G I J K M O U V X Y Z ad bR;obtain⟨x0,x1,x2,x3,x4,x5,x6,x7,x8,x9,D,G,I,J,K,M,O,U,V,X,Y,Z⟩:=a2.o.cells;go_wp2;go_meet;exact⟨g,ps,A4,m4,c4,ak,Z_ (a2.o.base _ _),Z_ (aA.wF cc.o HS.o a2.o.size (Cf w _ _ _) (λk hk=>by omega)),Z_ (al.Iy kf.o (Cf w _ _ _) (λk hk=>by omega))⟩
 obtain⟨g,base,Ab,nb,cb,hH,ad,bR,hJ⟩:=hcut;obtain⟨W3,rfl⟩:=N_ (wc);clear x0 x1 x2 x3 x4 x5 x6 x7 x8 x9 D G I J K M O U V X Y Z bt ak bp bo;have hK:=Z_ (oC st _ S W3 (λb t=>by have:=HS.o b t;have:=ad.o.size;omega) (H.o.below HS.o ad.o.below) aK (by decide) (λf hf=>by have:=b5.o f hf;omega));obtain⟨x0,x1,x2,x3,x4,x5,x6,x7,x8,x9,D,G,I,J,K,M,O,U,V,X,Y,Z⟩:=ad.o.cells;obtain⟨d,ba⟩:=N_ (match aj af.name aK st.files with|none=>[]|some f=>f.data);have cu:x_ (cO j g=dR (aU g (dM d))):=Z_ (by
  unfold cO;rw[fb.o,ba];cases aj af.name aK st.files<;>rfl)
 have fz:x_ (bX j g=if bD (aU g (dM d))<d.length then aF j aK (bD (aU g (dM d)):Nat)else(j,0)):=Z_ (by
  unfold bX;rw[fb.o,ba];cases aj af.name aK st.files<;>rfl)
 have hL:x_ (d.length<=800000):=Z_ (by
  rw[ba];cases hf:aj af.name aK st.files with
  |none=>simp
  |some f=>exact b5.o f (jA hf))
 have hM:x_ (H_ h_ 97 #[JI #[e_ d_ st.aa,a_ A st.files.length c],g_ ⟨#[108,111,103]⟩] W3 λe w'=>∃A5 c5 er,e=k_ (J_ #[a_ A5 d.length c5,e_ d_ er])/\n_ W3 W3 w'/\a8 (λb=>W3.heap.size<=b/\b<w'.heap.size) w' (a_ A5 d.length c5) (l_ d)):=Z_ (by
  refine Calls.mono hK.o ?_;rintro e w' ⟨t,hr⟩;cases hf:aj af.name aK st.files with
  |none=>
   rw[hf]at ba;rw[gK (by decide) hf]at hr;subst ba;exact⟨b_,0,11,hr,t,⟨b_,0,rfl,by simp[l_],by simp[maxLen],λh=>by simp[l_]at h⟩⟩
  |some f=>
   rw[hf]at ba;rw[dY (by decide) hf]at hr;simp only at ba;obtain⟨u,rfl,hu⟩:=hr;rw[<-ba]at hu;obtain⟨A5,c5,cv⟩:=hu.form;rw[t_]at cv;subst cv;refine⟨A5,c5,0,rfl,t,?_⟩;have:=Own.jf hu (F:=λk=>k<W3.heap.size) (λk hk=>hk);exact this.ae λb t=>⟨⟨by have:=t.2;omega,t.1⟩,rfl⟩)
 clear ba hK fb b5;obtain⟨E,hE,gi⟩:=Hf d g;obtain⟨ps,hN⟩:=N_ (dR (aU g (dM d)));rw[<-hN]at hE gi cu;rw[<-gi]at fz;have HE:=Z_ hE;clear hN gi hE;go_wp2_with fail;refine hM.o.mono ?_;rintro e w4 ⟨A5,c5,lk,rfl,bb,hO⟩;have a2:=Z_ (ad.o.go bb);have cc:=Z_ (aA.o8 bR.o HS.o ad.o.size bb);have hQ:=Z_ (al.up hJ.o bb);have hR:x_ (a8 (zy w w4) w4 (a_ A5 d.length c5) (l_ d)):=Z_ (hO.ae λb t=>⟨⟨by have:=ad.o.size;omega,t.2⟩,rfl⟩);clear bb hO hM x0 x1 x2 x3 x4 x5 x6 x7 x8 x9 D G I J K M O U V X Y Z ad bR hJ;have bB:=ch.o;rw[hH.o]at bB;simp only at bB;rw[fz.o,cu.o]at bB;have eb:=Z_ bB;clear bB fz cu hH ch;have kh:=Z_ a2.o.size;obtain⟨x0,x1,x2,x3,x4,x5,x6,x7,x8,x9,D,G,I,J,K,M,O,U,V,X,Y,Z⟩:=a2.o.cells;go_wp2
 go_loopw [14] (λav wr=>∃(k:Nat) (us:List m_) (Ar:Option Kb) (cr a:Nat),k<=ps.length/\av=e_ d_ (a:Nat)/\x_ (a=E k)/\x_ (mD w st.aa (a_ A st.files.length c) j.aa (a_ A1 j.files.length c1) g (a_ Ab nb cb) (a_ Ar k cr) wr)/\x_ (Ez w w4 wr)/\x_ (ma w4 ps k (a_ Ar k cr) us wr)) (λav _=>d.length - (intOf av).toNat)
 case atStart=>exact⟨0,[],b_,0,0,by omega,rfl,Z_ HE.o.zero.symm,a2,Z_ (Ez.refl _ _),Z_ (ma.nil _ _ _)⟩
 obtain⟨k,us,Ar,cr,a,hk,rfl,HA,ec,cx,cB⟩:=hrel;clear x0 x1 x2 x3 x4 x5 x6 x7 x8 x9 D G I J K M O U V X Y Z;have e3:a<=d.length:=by rw[HA.o];exact HE.o.le k
 have gn:=cx.o.1;have km:=kh.o;have hT:bw wr wr (a_ A5 d.length c5) (l_ d):=(hR.o.ae (w':=wr) (S':=zy w w4) λb t=>⟨t,cx.o.2 b t.2 (by have:=t.1;omega)⟩).dH λb t=>by have:=t.2;omega
 obtain⟨A6,c6,e6,s6⟩:=fJ hT a e3;obtain⟨M6,ee⟩:=N_ (d.length - a);rw[<-ee]at e6 s6;have lv:∀w',(Instr.slice 24 (a_ A5 d.length c5) (c_ (e_ d_ (a:Nat))) b_ b_).run h_ w'=.ok (a_ A6 M6 c6) w':=λw'=>by
  have:=eF A5 d.length c5 a w' e3;rw[e6]at this;exact this
 have b0:=rB A6 c6 (d.drop a) wr (by rw[Kr,<-ee];exact s6) (by rw[Kr];have:=hL.o;omega);rw[Kr,<-ee]at b0;clear s6 e6 ee hT;by_cases kn:k<ps.length
 ·obtain⟨gp,hU,kr⟩:=HE.o.next k kn
  rw[<-HA.o]at gp hU;rw[gp]at b0;obtain⟨p,hp⟩:=N_ (ps.getD k []);obtain⟨n,hn⟩:=N_ (E (k+1) - a);rw[<-hp,<-hn]at b0;have ks:=Z_ hp;have k0:x_ (a+n=E (k+1)):=Z_ O_;have k7:a+n<=d.length:=by omega
  have l3:0<n:=by omega
  have hV:=Z_ b0;clear b0 gp hU kr hp hn;go_wp2_with fail;refine hV.o.mono ?_;rintro e w7 ⟨bk,A7,c7,rfl,eg⟩;simp only at eg;simp only;have bg:=Z_ (ec.o.go bk);obtain⟨x0,x1,x2,x3,x4,x5,x6,x7,x8,x9,D,G,I,J,K,M,O,U,V,X,Y,Z⟩:=bg.o.cells;have cd:=Z_ bk;have b1:=(cB.o.own.below bk).alloc (f_ #[a_ A7 p.length c7] 24);have e4:=eB (Own.jf eg (F:=λ_=>False) (λ_ h=>h.elim));have e5:=bw.new w7 24 #[a_ A7 p.length c7] [a_ A7 p.length c7] rfl (by simp[maxLen]);have l4:=bk.size;have hlen:=cB.o.len;have hX:=Z_ eg;have l5:=HE.o.len;have l6:=hL.o;clear eg bk hV;go_wp2_with (at_builtin;refine aE _ rfl _ _ _ rfl w4 24 _ j8 _ _ rfl b1 _ _ _ rfl e5 (λx hx=>by simp at hx;subst hx;exact e4) ?c1 ?c2 ?_)
  case c1=>simp;omega
  case c2=>simp;omega
  intro v8 w8 cE gv e7;have gy:n_ w4 wr w8:=((cd.o.mono gn).alloc O_ _).trans (jE b1 (by simp;omega) gv);have hY:=ec.o.GX km gy;have h4:=cx.o.below gy;have en:=cB.o.next gn cd.o (by rw[<-ks.o];exact hX.o) _ cE gv e7;obtain⟨A8,c8,b3⟩:=en.own.form;rw[en.len]at b3;have h5:=Z_ hY;have k1:=Z_ h4;have k2:=Z_ en;clear x0 x1 x2 x3 x4 x5 x6 x7 x8 x9 D G I J K M O U V X Y Z cE gv e7 b1 e4 e5 gy hY h4 en hX cd bg;subst b3;obtain⟨x0,x1,x2,x3,x4,x5,x6,x7,x8,x9,D,G,I,J,K,M,O,U,V,X,Y,Z⟩:=h5.o.cells;go_wp2;go_roundw
  case rel=>exact⟨k+1,_,A8,c8,a+n,by omega,by go_num,k0,Z_ (h5.o.rest _),Z_ (k1.o.set 4 _),Z_ (k2.o.set _ (by show w.heap.size+1+1<_;omega) _)⟩
  simp[intOf];omega
 have eo:k=ps.length:=by omega
 have g0:=HE.o.last;rw[<-eo,<-HA.o]at g0;have h6:x_ (H_ h_ 99 #[a_ A6 M6 c6] wr λe w'=>n_ wr wr w'/\∃(gz n:Int) (A:Option Kb) (m c:Nat) (ev:Bool),e=k_ (J_ #[e_ d_ gz,a_ A m c,e_ d_ n,u_ ev])/\(ev=o_\/(ev=true/\¬gz=(g:Int)))):=Z_ (by
  refine Calls.mono b0 ?_;rcases g0 with he|⟨y,he,hy⟩
  ·rw[he]
   rintro e w' ⟨t,gz,n,A,m,c,rfl⟩;exact⟨t,gz,n,A,m,c,o_,rfl,.inl rfl⟩
  rw[he];rintro e w' ⟨t,A,c,rfl,-⟩;exact⟨t,_,_,_,_,_,_,rfl,.inr ⟨rfl,by omega⟩⟩)
 have k3:=Z_ eo;have eA:x_ (E ps.length=a):=Z_ (by rw[<-eo,HA.o]);clear g0 b0 eo;go_wp2_with fail;refine h6.o.mono ?_;rintro e w7 ⟨bk,gz,n7,A7,m7,c7,ev,rfl,h7⟩;have bg:=Z_ (ec.o.go bk);have cf:=cx.o.below (bk.mono gn);have h8:=Z_ (cB.o.below bk);have h9:x_ (aA (mH S w w7) w7 (a_ A1 j.files.length c1) j.files):=Z_ (cc.o.ae λb t=>by
  have h1:=cf.1;rcases t with t|t
  ·have:=HS.o b t
   exact⟨.inl t,cf.2 b O_ O_⟩
  exact⟨.inr ⟨t.1,by omega⟩,cf.2 b t.2 O_⟩)
 have cd:x_ (al (zy w w7) w7 (a_ Ab nb cb) base):=Z_ (hQ.o.ae λb t=>by
  have h1:=cf.1;have h2:=t.1;have h3:=t.2;exact⟨⟨h2,by omega⟩,cf.2 b h3 O_⟩)
 have ih:x_ (al (zy w w7) w7 (a_ Ar k cr) ps):=Z_ ((h8.o.rows k3.o).ae λb t=>⟨⟨by have:=t.1;omega,t.2⟩,rfl⟩);clear bk cf h8 h6 cB cx ec cc hQ hR a2 HA;obtain⟨x0,x1,x2,x3,x4,x5,x6,x7,x8,x9,D,G,I,J,K,M,O,U,V,X,Y,Z⟩:=bg.o.cells;by_cases eC:a<d.length
 ·have iv:(a:Int)<(d.length:Nat):=by omega
  have j0:=lV j cp.o.1 _ (mH S w w7) w7 (λb t=>by
   rcases t with t|t
   ·have:=HS.o b t;have:=bg.o.size;omega
   exact t.2) h9.o aK (by decide) cp.o.2.1 cp.o.2.2 (a:Nat)
  have cF:x_ (aW st=if(aF j aK (a:Nat)).2=0 then((aF j aK (a:Nat)).1,.ok (g,base,ps))else((aF j aK (a:Nat)).1,.error (aF j aK (a:Nat)).2)):=Z_ (by rw[eb.o,eA.o,G_ eC]);generalize aF j aK (a:Nat)=T at*;obtain⟨T,er⟩:=T;have j1:=Z_ j0;simp only at cF;clear j0 eb eA eC;rcases h7 with rfl|⟨rfl,k4⟩;all_goals(
   go_wp2_with fail;refine j1.o.mono ?_;rintro e w8 ⟨v8,rfl,e0,cg⟩;obtain⟨A8,c8,rfl,-⟩:=e0.form;simp only at e0;simp only;have j2:aA (mH S w w8) w8 (a_ A8 T.files.length c8) T.files:=e0.sub λb t=>by
    have:=cg.size;have:=bg.o.size;rcases t with(t|t)|t
    ·exact .inl t
    ·exact .inr ⟨t.1,by omega⟩
    exact .inr ⟨by omega,t.2⟩
   have k5:w.heap.size+3<=w8.heap.size:=by have:=cg.size;have:=bg.o.size;omega
   have g1:=((bg.o.go cg).go (ah w8 (f_ #[e_ d_ T.aa,a_ A8 T.files.length c8] 33)));have j3:=Z_ (g1.files T.aa (a_ A8 T.files.length c8));have e2:=GL w (w8.alloc (f_ #[e_ d_ T.aa,a_ A8 T.files.length c8] 33)) (e_ d_ T.aa) (a_ A8 T.files.length c8);have j4:=Z_ ((aA.o8 j2 HS.o k5 (ah w8 (f_ #[e_ d_ T.aa,a_ A8 T.files.length c8] 33))).wF HS.o (by simp;omega) e2 (λk hk=>by omega));have HB9:=Z_ (al.Iy (al.up (al.up cd.o cg) (ah w8 (f_ #[e_ d_ T.aa,a_ A8 T.files.length c8] 33))) e2 (λk hk=>by omega));have k6:=Z_ (al.Iy (al.up (al.up ih.o cg) (ah w8 (f_ #[e_ d_ T.aa,a_ A8 T.files.length c8] 33))) e2 (λk hk=>by omega));clear x0 x1 x2 x3 x4 x5 x6 x7 x8 x9 D G I J K M O U V X Y Z;obtain⟨x0,x1,x2,x3,x4,x5,x6,x7,x8,x9,D,G,I,J,K,M,O,U,V,X,Y,Z⟩:=g1.cells;clear e0 cg j2 g1 e2 j1;by_cases he:er=0
   ·subst he
    rw[G_ rfl]at cF;go_wp2;refine C_ (v:=J_ #[JI #[e_ d_ T.aa,a_ A8 T.files.length c8,e_ d_ g,a_ Ab nb cb,a_ Ar k cr],e_ d_ 0]) (by simp[results,Tryz.results56,go_sem,x0,x1,x2,x3,x4,x5,x6,x7,x8,x9,D,G,I,J,K,M,O,U,V,X,Y,Z]) rfl ?_;rw[HP.o,cF.o];exact Ib j3.o HS.o j4.o HB9.o k6.o
   rw[I_ he]at cF;have l7:(er !=0)=true:=by simpa using he
   go_wp2;refine C_ (v:=J_ #[JI #[e_ d_ T.aa,a_ A8 T.files.length c8,e_ d_ g,a_ Ab nb cb,a_ Ar k cr],e_ d_ er]) (by simp[results,Tryz.results56,go_sem,x0,x1,x2,x3,x4,x5,x6,x7,x8,x9,D,G,I,J,K,M,O,U,V,X,Y,Z]) rfl ?_;rw[HP.o,cF.o];exact Ia er j3.o HS.o j4.o)
 have iv:¬(a:Int)<(d.length:Nat):=by omega
 have df:x_ (aW st=(j,.ok (g,base,ps))):=Z_ (by rw[eb.o,eA.o,I_ eC];rfl);have bj:=BS w w7 (e_ d_ j.aa) (a_ A1 j.files.length c1) (e_ d_ g) (a_ Ab nb cb) (a_ Ar k cr);have j6:x_ (mc w S (aW st) (k_ (J_ #[JI #[e_ d_ j.aa,a_ A1 j.files.length c1,e_ d_ g,a_ Ab nb cb,a_ Ar k cr],e_ d_ 0])) (((((w7.setCell ⟨w+1,0,b_⟩ (e_ d_ j.aa)).setCell ⟨w+1,1,b_⟩ (a_ A1 j.files.length c1)).setCell ⟨w+1,2,b_⟩ (e_ d_ g)).setCell ⟨w+1,3,b_⟩ (a_ Ab nb cb)).setCell ⟨w+1,4,b_⟩ (a_ Ar k cr))):=Z_ (by
  rw[df.o];have up:∀{v:m_} {ls:List (List UInt8)},al (zy w w7) w7 v ls->al (λb=>w.heap.size<=b/\b<((((((w7.setCell ⟨w+1,0,b_⟩ (e_ d_ j.aa)).setCell ⟨w+1,1,b_⟩ (a_ A1 j.files.length c1)).setCell ⟨w+1,2,b_⟩ (e_ d_ g)).setCell ⟨w+1,3,b_⟩ (a_ Ab nb cb)).setCell ⟨w+1,4,b_⟩ (a_ Ar k cr))).heap.size) _ v ls:=λh=>(al.Iy h bj (λk hk=>by omega)).ae λb t=>⟨⟨by have:=t.1;omega,t.2⟩,rfl⟩
  exact⟨_,_,_,_,_,rfl,aA.DI h9.o HS.o bg.o.size bj,bg.o.below.trans (bj.below (by have:=bg.o.size;omega) (λk hk=>by omega)),⟨_,_,_,rfl⟩,⟨_,_,_,rfl⟩,rfl,rfl,up cd.o,up ih.o⟩)
 clear bj eb df eA eC;rcases h7 with rfl|⟨rfl,k4⟩;all_goals(
  go_wp2;refine C_ (v:=J_ #[JI #[e_ d_ j.aa,a_ A1 j.files.length c1,e_ d_ g,a_ Ab nb cb,a_ Ar k cr],e_ d_ 0]) (by simp[results,Tryz.results56,go_sem,x0,x1,x2,x3,x4,x5,x6,x7,x8,x9,D,G,I,J,K,M,O,U,V,X,Y,Z]) rfl ?_;rw[HP.o];exact j6.o)
theorem uO(pw g:Int)(A1 Ab Ar:Option Kb)(n1 c1 nb cb nr cr:Nat)(base ps:List (List UInt8))(w:j_)(K:al (·<w.heap.size) w (a_ Ab nb cb) base)(hr:al (·<w.heap.size) w (a_ Ar nr cr) ps)(av:base.length<=1048576)(a1:ps.length<=1048576)(a2:∀l∈base,l.length<=1000000)(ba:∀l∈ps,l.length<=1000000):
  H_ h_ 57 #[JI #[e_ d_ pw,a_ A1 n1 c1,e_ d_ g,a_ Ab nb cb,a_ Ar nr cr]] w λe w'=>∃u,e=k_ u/\al (λb=>w.heap.size<=b/\b<w'.heap.size) w' u (base++ps)/\n_ w w w':=by
 have b0:=ah w (f_ #[e_ d_ pw,a_ A1 n1 c1,e_ d_ g,a_ Ab nb cb,a_ Ar nr cr] 44);have h0:=r_ w (f_ #[e_ d_ pw,a_ A1 n1 c1,e_ d_ g,a_ Ab nb cb,a_ Ar nr cr] 44);have e0:(w.alloc (f_ #[e_ d_ pw,a_ A1 n1 c1,e_ d_ g,a_ Ab nb cb,a_ Ar nr cr] 44)).heap.size=w.heap.size+1:=by simp
 have bb:al (·<w.heap.size) (w.alloc (f_ #[e_ d_ pw,a_ A1 n1 c1,e_ d_ g,a_ Ab nb cb,a_ Ar nr cr] 44)) (a_ Ab nb cb) base:=K.ae λb K=>⟨K,b0.block b K⟩
 have bd:=Z_ (jd _ base w _ bb O_ av a2);have bf:=Z_ b0;have bt:=Z_ h0;have V:=Z_ e0;have HR:=Z_ hr;have bx:=Z_ ba;clear K bb b0 h0 e0 hr a2 ba;go_enter Tryz.func57,Tryz.ntmps57;go_wp2_with fail;refine bd.o.mono ?_;rintro e w2 ⟨u,us,rfl,hx⟩;obtain⟨Au,cu,G⟩:=hx.own.form;have hlen:=hx.len;rw[hlen]at G;have HX:=Z_ hx;have B2:=Z_ (bf.o.trans (hx.below.mono bf.o.size));have hh:w2.heap[w.heap.size]?=c_ (f_ #[e_ d_ pw,a_ A1 n1 c1,e_ d_ g,a_ Ab nb cb,a_ Ar nr cr] 44 (0,0)):=(hx.below.block _ (by rw[V.o];omega)).trans bt.o;have x4:w2.cell? ⟨w,4,b_⟩=c_ (a_ Ar nr cr):=by simp[World.cell?,hh]
 have bg:=B2.o.size;have bj:al (·<w.heap.size) w2 (a_ Ar nr cr) ps:=HR.o.ae λb K=>⟨K,B2.o.block b K⟩
 have bk:=Z_ (jd _ ps w w2 bj bg a1 bx.o);obtain⟨nB,ad⟩:=N_ (base.length);rw[<-ad]at G hlen;have J:=Z_ ad;clear hx bj hh bd ad;subst G;go_wp2_with fail;refine bk.o.mono ?_;rintro e w3 ⟨u2,I,rfl,j⟩;have M:=HX.o.own.below j.below;have Y:=Own.dH j.own;have Z:∀x∈I,x.oneCell'=true:=λx hx=>by
  obtain⟨i,hi,rfl⟩:=List.mem_iff_getElem.1 hx;have:=j.cells i (by rw[<-j.len];exact hi);rw[show I.getD i (u_ o_)=I[i] by simp[s_,hi]]at this;exact eB this
 obtain⟨cd,cf,t⟩:=j.own.form;have D:=j.len;rw[D]at t;obtain⟨nP,ak⟩:=N_ (ps.length);rw[<-ak]at t D;have bm:=Z_ ak;have bB:=Z_ j;have cg:=j.below.size;clear j ak bk;subst t;have ch:nB<=1048576:=by rw[J.o];exact av
 have ck:nP<=1048576:=by rw[bm.o];exact a1
 have bN:(w.alloc (f_ #[e_ d_ pw,a_ A1 n1 c1,e_ d_ g,a_ Ab nb cb,a_ Ar nr cr] 44)).heap.size<=w3.heap.size:=by rw[V.o];have:=HX.o.below.size;rw[V.o]at this;omega
 go_wp2_with (at_builtin;refine aE _ rfl _ _ _ rfl _ 24 _ j8 _ _ rfl M _ _ _ rfl Y Z ?c1 ?c2 ?_)
 case c1=>rw[hlen,D];omega
 case c2=>exact bN
 intro v4 w4 O bn bo;have bp:=Z_ O;have bO:=Z_ bn;clear bn bo O Z Y M;obtain⟨A4,c4,bR⟩:=bp.o.form;subst bR;go_wp2;go_ret;have hX:=HX.o;have X:=bB.o;have hO:=bp.o;have hG:=bO.o;have e0:=V.o;have cl:=hX.below.size;have cm:=hG.size;have hv:∀g,(a_ Au nB cu).ownBlock=c_ g->w.heap.size+1<=g/\g<w2.heap.size:=λg e=>by
  have:=hX.own.lt g e;rw[e0]at this;exact this
 have cc:n_ w3 w3 w3:=JG _ _;refine⟨_,rfl,⟨us++I,by rw[p_,p_,hlen,D,J.o,bm.o],?_,λi hi=>?_⟩,?_⟩
 ·have:=Own.jf hO (F:=λk=>k<w.heap.size+1) (λk hk=>by first|exact hk|(rw[e0];exact hk)|(simpa using hk))
  exact this.ae λb K=>⟨⟨by have:=K.2;omega,K.1⟩,rfl⟩
 ·by_cases U:i<nB
  ·have hc:=hX.cells i (by rw[<-J.o];exact U)
   rw[show(us++I).getD i (u_ o_)=us.getD i (u_ o_) by simp[s_,Kx,hlen,U],
    show(base++ps).getD i []=base.getD i [] by simp[s_,Kx,<-J.o,U]]
   refine hc.ae λb ⟨b1,b2,b3⟩=>⟨⟨by omega,by omega⟩,?_⟩
   rw[hG.block b O_ (λe=>b3 e.symm),X.below.block b b2]
  have b5:i - nB<ps.length:=by rw[p_,<-J.o]at hi;omega
  have hc:=X.cells (i - nB) b5;rw[show(us++I).getD i (u_ o_)=I.getD (i - nB) (u_ o_) by simp[s_,Kx,hlen,U],
   show(base++ps).getD i []=ps.getD (i - nB) [] by simp[s_,Kx,<-J.o,U]]
  refine hc.ae λb ⟨b1,b2,b3⟩=>⟨⟨by omega,by omega⟩,?_⟩
  exact hG.block b b2 (λe=>by have:=hv b e.symm;omega)
 have b6:n_ w w3 w4:=jE ((hX.own.below X.below).base O_) O_ hG;exact(B2.o.trans (X.below.mono bg)).trans b6
theorem sZ{st:St}{fs:List af}(h:Calm st.files k d)(h2:Calm fs k d):Calm (cT st fs).1.files k d:=by
 unfold cT;split<;>assumption
theorem qM{st:St}{fs:List af}(h:st.aa<=9223372036854775807):(cT st fs).1.aa<=9223372036854775807:=by
 unfold cT;split
 ·exact h
 have:=mj st.aa;simp only;omega
theorem wX{st:St}(h:Calm st.files k d)(s:List UInt8):Calm (cD st s).1.files k d:=by
 unfold cD;split
 ·exact h
 exact sZ h (h.an _)
theorem uK{st:St}(h:st.aa<=9223372036854775807)(s:List UInt8):(cD st s).1.aa<=9223372036854775807:=by
 unfold cD;split
 ·exact h
 exact qM h
theorem zh{st:St}(h:Calm st.files k d)(s:List UInt8)(n:Int):Calm (aF st s n).1.files (k+1) d:=by
 unfold aF;have j:=h.mono (Nat.le_succ k) (Kh d);split
 ·exact j
 rename_i f t
 obtain⟨hm,hn,D⟩:=EW t;split
 ·exact j
 refine sZ j (h.aq (by rw[hn];exact D) ?_ ?_)
 ·have:=h.data f hm;simp only[JN];omega
 have:=h.safe f hm;simp only[JN];omega
theorem xL{st:St}(h:st.aa<=9223372036854775807)(s:List UInt8)(n:Int):(aF st s n).1.aa<=9223372036854775807:=by
 unfold aF;split
 ·exact h
 split
 ·exact h
 exact qM h
theorem yF{st:St}(h:Calm st.files k d):Calm (bC st).1.files k d:=by
 unfold bC;split
 ·exact wX h _
 exact h
theorem wJ{st:St}(h:st.aa<=9223372036854775807):(bC st).1.aa<=9223372036854775807:=by
 unfold bC;split
 ·exact uK h _
 exact h
theorem rC{st:St}(h:Calm st.files k d)(g:Nat):Calm (bX st g).1.files (k+1) d:=by
 have j:=h.mono (Nat.le_succ k) (Kh d);unfold bX;split
 ·exact j
 split
 ·exact zh h _ _
 exact j
theorem o9{st:St}(h:st.aa<=9223372036854775807)(g:Nat):(bX st g).1.aa<=9223372036854775807:=by
 unfold bX;split
 ·exact h
 split
 ·exact xL h _ _
 exact h
theorem BL{st:St}(h:Calm st.files k d):Calm (aW st).1.files (k+1) d:=by
 have h1:=yF h;have j:=h1.mono (Nat.le_succ k) (Kh d);unfold aW;split
 ·split
  ·exact j
  split
  ·exact rC h1 _
  exact rC h1 _
 exact j
theorem yI{st:St}(h:st.aa<=9223372036854775807):(aW st).1.aa<=9223372036854775807:=by
 have h1:=wJ h;unfold aW;split
 ·split
  ·exact h1
  split
  ·exact o9 h1 _
  exact o9 h1 _
 exact h1
theorem yH{st j:St}{n:Int}(h:aW st=(j,.error n)):n≠0:=by
 unfold aW at h;split at h
 ·split at h
  ·injection h with _ h;injection h with h;omega
  split at h
  ·injection h with _ h;cases h
  rename_i t;injection h with _ h;injection h with h;omega
 rename_i t;injection h with _ h;injection h with h;omega
def yW(r:Except Int (Nat×List (List UInt8)×List (List UInt8))):Int:=match r with| .error n=>n| .ok _=>0
def IK(w w':j_)(r:Except Int (Nat×List (List UInt8)×List (List UInt8)))(gen:Int)(bv rv:m_):Prop:=match r with
 | .error _=>True
 | .ok x=>gen=(x.1:Nat)/\al (λb=>w.heap.size<=b/\b<w'.heap.size) w' bv x.2.1/\al (λb=>w.heap.size<=b/\b<w'.heap.size) w' rv x.2.2
theorem mc.both{w w':j_}{S:Nat->Prop}{r:St×Except Int (Nat×List (List UInt8)×List (List UInt8))}{e:Ending}(h:mc w S r e w'):∃A n c gen Ab nb cb Ar nr cr,e=k_ (J_ #[JI #[e_ d_ r.1.aa,a_ A n c,e_ d_ gen,a_ Ab nb cb,a_ Ar nr cr],e_ d_ (yW r.2)])/\x_ (aA (fO S w w') w' (a_ A n c) r.1.files)/\x_ (n_ w w w')/\x_ (IK w w' r.2 gen (a_ Ab nb cb) (a_ Ar nr cr)):=by
 obtain⟨v',bv,rv,gen,er,rfl,h1,h2,⟨Ab,nb,cb,rfl⟩,⟨Ar,nr,cr,rfl⟩,j⟩:=h;obtain⟨A,c,rfl,-,-⟩:=h1.form;obtain⟨s,res⟩:=r;cases res with
 |error n=>simp only at j;subst j;exact⟨A,_,c,gen,Ab,nb,cb,Ar,nr,cr,rfl,Z_ h1,Z_ h2,Z_ trivial⟩
 |ok x=>
  obtain⟨rfl,t,D,G⟩:=j;exact⟨A,_,c,gen,Ab,nb,cb,Ar,nr,cr,rfl,Z_ h1,Z_ h2,Z_ ⟨t,D,G⟩⟩
