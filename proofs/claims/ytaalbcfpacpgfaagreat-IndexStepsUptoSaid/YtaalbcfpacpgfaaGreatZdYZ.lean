import Derived.BigRegion
import Derived.Deep.CutBlock
import Derived.Deep.RegionHeld
import Derived.Test.YtaalbcfpacpgfaaGreatZdXZ
import Derived.Test.YtaalbcfpacpgfaaGreatZdY4
import Derived.Test.YtaalbcfpacpgfaaGreatZdXA
set_option linter.all false
set_option maxHeartbeats 16000000
set_option maxRecDepth 100000
open Bool renaming false->o_,true->v_
open Go renaming Addr->Kb,TypeId->Ki,Value->m_,World->j_
open Go.Ending renaming returned->k_
open Go.IntKind renaming i64->d_
open Go.Lib renaming byteCells->l_
open Go.Obj renaming cells->f_
open Go.Program renaming elem->K7
open Go.Proofs.Tryz renaming prog->h_
open Go.Result renaming andThen->LK
open Go.RowKit renaming Below->n_,Hid->x_,intOf->A_
open Go.Value renaming agg->JI,bool->u_,int->e_,ownBlock->KT,slice->a_,string->g_,tuple->J_
open Go.World renaming setCell->Kd
open Option renaming none->b_,some->c_
open Or renaming inl->Ke
namespace Go.Proofs.YtaalbcfpacpgfaaGreat
open Go.RowKit Go.Lib Go.Vfs Go.Par Go.Typ Go.Shelf
variable{W w W':j_}{b r B c n:Nat}{v0 v1 v2 u0 u1 u2:m_}{A:Option Kb}{l l':List UInt8}{bad bad':Bool}{left:Int}
theorem aR{t:Ki}(h:W.heap[b]?=c_ (f_ #[v0,v1,v2] t (0,0))):
  (W.cell? ⟨b,0,b_⟩=c_ v0/\W.cell? ⟨b,1,b_⟩=c_ v1/\W.cell? ⟨b,2,b_⟩=c_ v2):=by
 simp[World.cell?,h]
theorem au{t:Ki}(h:W.heap[b]?=c_ (f_ #[v0,v1,v2] t (0,0))):
  (W.frozen? ⟨b,0,b_⟩=o_/\W.frozen? ⟨b,1,b_⟩=o_/\W.frozen? ⟨b,2,b_⟩=o_):=by
 simp[World.frozen?,h]
theorem DU{t:Ki}(hr:W.heap[r]?=c_ (f_ #[u0,u1,u2] t (0,0))):
  (((W.setCell ⟨r,0,b_⟩ v0).setCell ⟨r,1,b_⟩ v1).setCell ⟨r,2,b_⟩ v2).heap[r]?=c_ (f_ #[v0,v1,v2] t (0,0)):=by
 have h0:=ai hr 0 v0;have h1:=ai h0 1 v1;have h2:=ai h1 2 v2;simpa using h2
theorem ko(v0 v1 v2:m_){t:Ki}(hr:W.heap[r]?=c_ (f_ #[u0,u1,u2] t (0,0))):
  ∃j,j=(((W.setCell ⟨r,0,b_⟩ v0).setCell ⟨r,1,b_⟩ v1).setCell ⟨r,2,b_⟩ v2)/\j.heap[r]?=c_ (f_ #[v0,v1,v2] t (0,0))/\Kept (·=r) W j:=
 ⟨_,rfl,DU hr,Kept.setCell (F:=(·=r)) (p:=⟨r,2,b_⟩) (Kept.setCell (F:=(·=r)) (p:=⟨r,1,b_⟩) (Kept.setCell (F:=(·=r)) (p:=⟨r,0,b_⟩) (Kept.refl _ _) (.inl rfl) v0) (.inl rfl) v1) (.inl rfl) v2⟩
theorem pK(h:bw w B (a_ A l.length c) (l_ l))(hn:n<=l.length):
  ∃A2 c2,sliced A n l.length c 1=a_ A2 (l.length - n) c2/\bw w B (a_ A2 (l.drop n).length c2) (l_ (l.drop n)):=by
 obtain⟨-,A2,c2,e,h2⟩:=nE h n l.length hn L_;refine⟨A2,c2,e,?_⟩;have:(l.drop n).take (l.length - n)=l.drop n:=Kq (by simp);rw[this]at h2;rw[Kr];exact h2
theorem xB(A:Option Kb)(n c l:Nat)(w:j_)(h:l<=n):(Instr.slice 24 (a_ A n c) (c_ (e_ d_ (l:Int))) b_ b_).run h_ w=.ok (sliced A l n c 1) w:=by
 have j:h_.underlying 24=c_ (.slice (h_.elem 24)):=by simp[K7,J9]
 have he:h_.elem 24=5:=by simp[K7,J9]
 rw[run_slice_l w 24 _ _ _ j d_ _ O_ O_,he,My];simp[LK]
def vn(l:List UInt8)(n B:Nat)(left:Int)(bad:Bool)(w:j_)(e:Ending)(w':j_):Prop:=
 ∃(A:Option Kb) (c:Nat) (l':List UInt8) (bad':Bool) (k:Nat),e=k_ (J_ #[JI #[a_ A l'.length c,e_ d_ left,u_ bad'],e_ d_ (k:Int)])/\bw w' B (a_ A l'.length c) (l_ l')/\n_ w.heap.size w w'/\
  ((n<=l.length/\l'=l.drop n/\k=cI (l.take n)/\bad'=bad)\/(l.length<n/\l'=l/\k=0/\bad'=v_))
theorem kW(l:List UInt8)(n:Nat)(hn:n<=4)(B:Nat)(A:Option Kb)(c:Nat)(left:Int)(bad:Bool)(w:j_)(hs:bw w B (a_ A l.length c) (l_ l))(hB:B<=w)(hl:l.length<=1000000000):
  Calls h_ 129 #[JI #[a_ A l.length c,e_ d_ left,u_ bad],e_ d_ (n:Int)] w (vn l n B left bad w):=by
 obtain⟨P,hP⟩:=N_ (vn l n B left bad w);have bf:=Z_ hP;rw[<-hP];clear hP;obtain⟨W2,t⟩:=N_ ((w.alloc (f_ #[a_ A l.length c,e_ d_ left,u_ bad] 192)).alloc (f_ #[a_ b_ 0 0,e_ d_ 0,u_ o_] 192));have Z:n_ w w W2:=by rw[t];exact(B_.alloc L_ _).alloc (by simp) _
 have ad:W2.heap[w.heap.size]?=c_ (f_ #[a_ A l.length c,e_ d_ left,u_ bad] 192 (0,0)):=by
  rw[t,z_ _ _ _ (by simp)];exact r_ _ _
 have bg:W2.heap[w.heap.size+1]?=c_ (f_ #[a_ b_ 0 0,e_ d_ 0,u_ o_] 192 (0,0)):=by
  rw[t];have:=r_ (w.alloc (f_ #[a_ A l.length c,e_ d_ left,u_ bad] 192)) (f_ #[a_ b_ 0 0,e_ d_ 0,u_ o_] 192);simpa using this
 have ak:=Z_ (hs.below (Z.mono hB));have b0:=Z_ Z;have V:=Z_ ad;have bj:=Z_ bg;have bk:x_ (W2.heap.size=w.heap.size+2):=Z_ (by rw[t];simp);obtain⟨y0,y1,y2⟩:=aR ad;rw[t]at y0 y1 y2;clear Z ad bg hs;have Y:x_ (∀(Wq:j_) (A':Option Kb) (l':List UInt8) (c':Nat) (bad':Bool),Kept (λg=>g=w.heap.size\/g=w.heap.size+1) W2 Wq->Wq.heap[w.heap.size+1]?=c_ (f_ #[a_ A' l'.length c',e_ d_ left,u_ bad'] 192 (0,0))->bw W2 B (a_ A' l'.length c') (l_ l')->bw Wq B (a_ A' l'.length c') (l_ l')/\n_ w w Wq):=Z_ λWq A' l' c' bad' hk hb X=>by
  refine⟨X.ae λb o hb=>D_ (w:=W2) (a:=⟨b,o,b_⟩) (hk.block b (by have:=bk.o;omega) (by show¬(b=_\/b=_);omega)),b0.o.trans (hk.below (by have:=bk.o;omega) (λg hg=>by omega))⟩
 by_cases b1:l.length<n
 ·have hd:(l.length:Int)<(n:Int):=by omega
  obtain⟨q0,q1,q2⟩:=au V.o;rw[t]at q0 q1 q2;go_enter Tryz.func129,Tryz.ntmps129;go_upto_region 2 with fail;rw[<-t]at y0 y1 y2 q0 q1 q2⊢;clear t;obtain⟨W3,j⟩:=N_ (W2.setCell ⟨w,2,b_⟩ (u_ v_));have M:Kept (λg=>g=w.heap.size\/g=w.heap.size+1) W2 W3:=by rw[j];exact(Kept.refl _ _).setCell (p:=⟨w,2,b_⟩) (.inl (.inl rfl)) _
  have D:W3.heap[w.heap.size]?=c_ (f_ #[a_ A l.length c,e_ d_ left,u_ v_] 192 (0,0)):=by
   rw[j];simpa using ai V.o 2 (u_ v_)
  have G:W3.heap[w.heap.size+1]?=c_ (f_ #[a_ b_ 0 0,e_ d_ 0,u_ o_] 192 (0,0)):=by
   rw[j,JZ _ _ _ _ (by simp)];exact bj.o
  have a1:=Z_ M;have a2:=Z_ D;have I:=Z_ G;clear M D G;go_upto_region 3 with fail;rw[<-j];clear j y0 y1 y2 q0 q1 q2;obtain⟨y0,y1,y2⟩:=aR a2.o;obtain⟨r0,r1,r2⟩:=aR I.o;obtain⟨s0,s1,s2⟩:=au I.o;obtain⟨Wf,O,J,U⟩:=ko (a_ A l.length c) (e_ d_ left) (u_ v_) I.o;have HE:x_ (P (k_ (J_ #[JI #[a_ A l.length c,e_ d_ left,u_ v_],e_ d_ 0])) Wf):=Z_ (by
   rw[bf.o];obtain⟨h1,h2⟩:=Y.o Wf A l c v_ (a1.o.trans' (U.mono λg _ hg=>.inr hg)) J ak.o;exact⟨A,c,l,v_,0,rfl,h1,h2,.inr ⟨b1,rfl,rfl,rfl⟩⟩)
  have ba:=Z_ J;have bb:=Z_ O;clear J U O;go_wp2;rw[<-bb.o];obtain⟨f0,f1,f2⟩:=aR ba.o;refine C_ (v:=J_ #[JI #[a_ A l.length c,e_ d_ left,u_ v_],e_ d_ 0]) (by simp[results,Tryz.results129,go_sem,f0,f1,f2]) rfl ?_;exact HE.o
 have hle:n<=l.length:=by omega
 have hd:¬((l.length:Int)<(n:Int)):=by omega
 obtain⟨A0,c0,e0,hc,hm,bm⟩:=ak.o.bq;injection e0 with e1 _ e3;subst e1 e3;obtain⟨A2,c2,bn,X⟩:=pK ak.o hle;have K:=λW=>xB A l.length c n W hle
 obtain⟨m,bd⟩:=N_ (l.length - n);rw[bn,<-bd]at K;have HM:x_ ((l.drop n).length=m):=Z_ (by rw[Kr,bd]);have b2:=Z_ bm;have b3:=Z_ X;have bo:=Z_ K;clear bm X bn K bd;go_enter Tryz.func129,Tryz.ntmps129;go_upto_region 6 with fail;rw[<-t]at y0 y1 y2⊢;clear t
 go_loopw [6,7] (λsv iv W=>∃k:Nat,k<=n/\iv=e_ d_ k/\sv=e_ d_ (cI (l.take k):Nat)/\W=W2) (λ_ iv _=>n - (A_ iv).toNat)
 case atStart=>exact⟨0,by omega,rfl,rfl,rfl⟩
 obtain⟨k,hk,rfl,rfl,rfl⟩:=hrel;by_cases bp:k<n
 ·obtain⟨b,off,x,rfl,b6,cb,hx,HX⟩:=b2.o.byte (Kc bp hle)
  have bt:=iQ (l.take k);have bx:(l.take k).length=k:=by rw[JN];omega
  have hp:256^k<=256^3:=LO O_ O_;rw[bx]at bt;have bB:cI (l.take (k+1))=cI (l.take k)*256+x:=by
   have bN:k<l.length:=by omega
   have bO:=HX.o;rw[s_,w_ bN]at bO;rw[y_ bN,tl,<-bO];rfl
  generalize cI (l.take k)=s at*;have b5:=Z_ bB;clear bB bx;have hs2:(s:Int)<=16777216:=by
   have:(256:Nat)^3=16777216:=by decide
   omega
  clear bt hp;go_wp2;go_roundw
  case rel=>exact⟨k+1,by omega,by go_num,by rw[b5.o];go_num,trivial⟩
  simp[A_];omega
 have bR:k=n:=by omega
 subst bR;have K:=bo.o;obtain⟨W3,j⟩:=N_ (wr.setCell ⟨w,0,b_⟩ (a_ A2 m c2));have M:Kept (λg=>g=w.heap.size\/g=w.heap.size+1) wr W3:=by rw[j];exact(Kept.refl _ _).setCell (p:=⟨w,0,b_⟩) (.inl (.inl rfl)) _
 have D:W3.heap[w.heap.size]?=c_ (f_ #[a_ A2 m c2,e_ d_ left,u_ bad] 192 (0,0)):=by
  rw[j];simpa using ai V.o 0 (a_ A2 m c2)
 have G:W3.heap[w.heap.size+1]?=c_ (f_ #[a_ b_ 0 0,e_ d_ 0,u_ o_] 192 (0,0)):=by
  rw[j,JZ _ _ _ _ (by simp)];exact bj.o
 have a1:=Z_ M;have a2:=Z_ D;have I:=Z_ G;obtain⟨q0,q1,q2⟩:=au V.o;clear M D G bp;go_upto_region 10 with fail;rw[<-j];clear j y0 y1 y2 q0 q1 q2;obtain⟨y0,y1,y2⟩:=aR a2.o;obtain⟨r0,r1,r2⟩:=aR I.o;obtain⟨s0,s1,s2⟩:=au I.o;obtain⟨Wf,O,J,U⟩:=ko (a_ A2 m c2) (e_ d_ left) (u_ bad) I.o;have HE:x_ (P (k_ (J_ #[JI #[a_ A2 m c2,e_ d_ left,u_ bad],e_ d_ (cI (l.take k):Nat)])) Wf):=Z_ (by
  rw[bf.o];obtain⟨h1,h2⟩:=Y.o Wf A2 (l.drop k) c2 bad (a1.o.trans' (U.mono λg _ hg=>.inr hg)) (by rw[HM.o];exact J) b3.o;exact⟨A2,c2,l.drop k,bad,_,by rw[HM.o],h1,h2,.inl ⟨hle,rfl,rfl,rfl⟩⟩)
 have ba:=Z_ J;have bb:=Z_ O;clear J U O;go_wp2;rw[<-bb.o];obtain⟨f0,f1,f2⟩:=aR ba.o;refine C_ (v:=J_ #[JI #[a_ A2 m c2,e_ d_ left,u_ bad],e_ d_ (cI (l.take k):Nat)]) (by simp[results,Tryz.results129,go_sem,f0,f1,f2]) rfl ?_;exact HE.o
theorem ze(A:Option Kb)(n c N:Nat)(w:j_)(h:N<=c):(Instr.slice 24 (a_ A n c) b_ (c_ (e_ d_ (N:Int))) b_).run h_ w=.ok (a_ A N c) w:=by
 have j:h_.underlying 24=c_ (.slice (h_.elem 24)):=by simp[K7,J9]
 have he:h_.elem 24=5:=by simp[K7,J9]
 rw[run_slice_h w 24 _ _ _ j d_ _ O_ O_,he,My];simp[LK,sliced,Addr.add]
theorem vn.len{k:Nat}(hn:n<=4)(h:(n<=l.length/\l'=l.drop n/\k=cI (l.take n)/\bad'=bad)\/(l.length<n/\l'=l/\k=0/\bad'=v_)):
  l'.length<=l.length/\k<=4294967295/\(n=1->k<=255)/\(bad=v_->bad'=v_):=by
 rcases h with⟨h1,rfl,rfl,rfl⟩|⟨h1,rfl,rfl,rfl⟩
 ·have h2:=iQ (l.take n)
  rw[JN,K2 h1]at h2;refine⟨by simp,?_,λe=>?_,λh=>h⟩
  ·have:256^n<=256^4:=LO O_ hn
   omega
  subst e;omega
 exact⟨Kh _,by omega,λ_=>by omega,λ_=>rfl⟩
structure xX(w:j_)(B:Nat)(A:Option Kb)(c:Nat)(l:List UInt8)(left:Int)(bad:Bool)(W:j_):Prop where
 box:W.heap[w.heap.size]?=c_ (f_ #[a_ A l.length c,e_ d_ left,u_ bad] 192 (0,0))
 res:W.heap[w.heap.size+1]?=c_ (f_ #[a_ b_ 0 0,e_ d_ 0,u_ o_] 192 (0,0))
 dH:bw W B (a_ A l.length c) (l_ l)
 fl:n_ w.heap.size w W
 two:w.heap.size+2<=W.heap.size
theorem xX.new(hs:bw w B (a_ A l.length c) (l_ l))(t:B<=w):
  xX w B A c l left bad ((w.alloc (f_ #[a_ A l.length c,e_ d_ left,u_ bad] 192)).alloc (f_ #[a_ b_ 0 0,e_ d_ 0,u_ o_] 192)):=by
 have j:n_ w w ((w.alloc (f_ #[a_ A l.length c,e_ d_ left,u_ bad] 192)).alloc (f_ #[a_ b_ 0 0,e_ d_ 0,u_ o_] 192)):=(B_.alloc L_ _).alloc (by simp) _;refine⟨?_,?_,hs.below (j.mono t),j,by simp⟩
 ·rw[z_ _ _ _ (by simp)];exact r_ _ _
 have:=r_ (w.alloc (f_ #[a_ A l.length c,e_ d_ left,u_ bad] 192)) (f_ #[a_ b_ 0 0,e_ d_ 0,u_ o_] 192);simpa using this
theorem xX.t(h:xX w B A c l left bad W)(D:B<=w)(j:n_ W W W'):xX w B A c l left bad W':=
 ⟨(j.block _ (ao h.box)).trans h.box,(j.block _ (ao h.res)).trans h.res,h.dH.below (j.mono (by have:=h.two;omega)),h.fl.trans (j.mono h.fl.size),by have:=h.two;have:=j.size;omega⟩
theorem xX.put{A':Option Kb}{c':Nat}{j:Int}(h:xX w B A c l left bad W)(G:B<=w)(t:Kept (·=w.heap.size) W W')
  (D:W'.heap[w.heap.size]?=c_ (f_ #[a_ A' l'.length c',e_ d_ j,u_ bad'] 192 (0,0))) (hs:bw W B (a_ A' l'.length c') (l_ l')):xX w B A' c' l' j bad' W':=by
 have I:=t.size;have h2:=h.two;refine⟨D,(t.block _ (ao h.res) (by show¬_=_;omega)).trans h.res,hs.ae λb o D=>D_ (w:=W) (a:=⟨b,o,b_⟩) (t.block b O_ (by show¬_=_;omega)),h.fl.trans (t.below O_ (λg J=>by omega)),by omega⟩
theorem xX.fin(h:xX w B A c l left bad W)(t:B<=w)(j:Kept (·=w.heap.size+1) W W'):
  bw W' B (a_ A l.length c) (l_ l)/\n_ w w W':=by
 have D:=j.size;have h2:=h.two;exact⟨h.dH.ae λb o G=>D_ (w:=W) (a:=⟨b,o,b_⟩) (j.block b O_ (by show¬_=_;omega)),h.fl.trans (j.below O_ (λg I=>by omega))⟩
def FF(l:List UInt8)(B:Nat)(left:Int)(bad:Bool)(w:j_)(e:Ending)(w':j_):Prop:=
 ∃(A:Option Kb) (c:Nat) (l':List UInt8) (bad':Bool) (s:ByteArray),e=k_ (J_ #[JI #[a_ A l'.length c,e_ d_ left,u_ bad'],g_ s])/\bw w' B (a_ A l'.length c) (l_ l')/\n_ w.heap.size w w'/\
  l'.length<=l.length/\s.size<=255/\(∀s0 l0,nQ l=c_ (s0,l0)->s=s0/\l'=l0/\bad'=bad)/\(nQ l=b_->bad'=v_)/\(bad=v_->bad'=v_)
theorem tA(l:List UInt8)(B:Nat)(A:Option Kb)(c:Nat)(left:Int)(bad:Bool)(w:j_)(hs:bw w B (a_ A l.length c) (l_ l))(hB:B<=w)(hl:l.length<=1000000000):
  Calls h_ 130 #[JI #[a_ A l.length c,.int d_ left,u_ bad]] w (FF l B left bad w):=by
 obtain⟨P,hP⟩:=N_ (FF l B left bad w);have bt:=Z_ hP;rw[<-hP];clear hP;obtain⟨W2,ba⟩:=N_ ((w.alloc (f_ #[a_ A l.length c,.int d_ left,u_ bad] 192)).alloc (f_ #[a_ b_ 0 0,.int d_ 0,u_ o_] 192));have Y:xX w B A c l left bad W2:=by rw[ba];exact xX.new hs hB
 obtain⟨y0,y1,y2⟩:=aR Y.box;have b6:=Z_ Y;have bx:=Z_ (kW l 1 O_ B A c left bad W2 Y.dH (Kj hB Y.fl.size) hl);have HB:=Z_ hB;rw[ba]at y0 y1 y2;clear hs Y;go_enter Tryz.func130,Tryz.ntmps130;go_wp2_with fail;rw[<-ba];clear ba y0 y1 y2;refine bx.o.mono ?_;rintro e w3 ⟨U,c3,I,D,k,rfl,bB,bN,K⟩;obtain⟨cb,-,bO,bR⟩:=vn.len O_ K;have cc:=bO rfl;have M:=Z_ K;have Z:=b6.o.t HB.o bN;obtain⟨W4,b0,bd,bf⟩:=ko (a_ U I.length c3) (.int d_ left) (u_ D) Z.box;have j:xX w B U c3 I left D W4:=Z.put HB.o bf bd bB;have cd:=Z_ j;have b1:=Z_ b0;obtain⟨y0,y1,y2⟩:=aR Z.box;obtain⟨q0,q1,q2⟩:=au Z.box;have cf:=Z_ bR;have ck:I.length<=1000000000:=by omega
 clear K bO bB bN Z j bf bd b0 bx bR;go_upto_region 2 with fail;rw[<-b1.o];clear b1 y0 y1 y2 q0 q1 q2;have j:=cd.o;obtain⟨y0,y1,y2⟩:=aR j.box;by_cases cl:I.length<k
 ·have hd:(I.length:Int)<(k:Int):=by omega
  obtain⟨q0,q1,q2⟩:=au j.box;obtain⟨W5,J⟩:=N_ (W4.setCell ⟨w,2,b_⟩ (u_ v_));have ad:xX w B U c3 I left v_ W5:=j.put HB.o (by rw[J];exact Kept.setCell (F:=(·=w.heap.size)) (p:=⟨w,2,b_⟩) (Kept.refl _ _) (.inl rfl) _) (by rw[J];simpa using ai j.box 2 (u_ v_)) j.dH;have G:=Z_ ad;clear j ad;go_upto_region 4 with fail;rw[<-J];clear J y0 y1 y2 q0 q1 q2;obtain⟨y0,y1,y2⟩:=aR G.o.box;obtain⟨r0,r1,r2⟩:=aR G.o.res;obtain⟨s0,s1,s2⟩:=au G.o.res;obtain⟨Wf,ak,a1,a2⟩:=ko (a_ U I.length c3) (.int d_ left) (u_ v_) G.o.res;have HE:x_ (P (k_ (J_ #[JI #[a_ U I.length c3,.int d_ left,u_ v_],.string ⟨#[]⟩])) Wf):=Z_ (by
   rw[bt.o];obtain⟨h1,h2⟩:=G.o.fin HB.o a2;refine⟨U,c3,I,v_,⟨#[]⟩,rfl,h1,h2,cb,by decide,λs0 l0 h=>?_,λ_=>rfl,λ_=>rfl⟩;exfalso;rcases M.o with⟨h3,V,X,h6⟩|⟨h3,V,X,h6⟩
   ·match l,h3 with
    |x::l1,_=>
     rw[nQ]at h;have e1:cI ((x::l1).take 1)=x.toNat:=by simp[cI]
     have e2:(x::l1).drop 1=l1:=rfl;rw[e1]at X;rw[e2]at V;rw[I_ (by rw[<-X,<-V];omega)]at h;cases h
   omega)
  have bj:=Z_ a1;have bk:=Z_ ak;clear a1 a2 ak;go_wp2;rw[<-bk.o];obtain⟨f0,f1,f2⟩:=aR bj.o;refine C_ (v:=J_ #[JI #[a_ U I.length c3,.int d_ left,u_ v_],.string ⟨#[]⟩]) (by simp[results,Tryz.results130,go_sem,f0,f1,f2]) rfl ?_;exact HE.o
 have hle:k<=I.length:=by omega
 have hd:¬((I.length:Int)<(k:Int)):=by omega
 obtain⟨A0,c0,e0,hc,hm,-⟩:=j.dH.bq;injection e0 with e1 _ e3;subst e1 e3;obtain⟨A5,c5,b2,b3⟩:=pK j.dH hle;have bg:=λW=>xB U I.length c3 k W hle
 have bm:=λW=>ze U I.length c3 k W O_
 obtain⟨m,bn⟩:=N_ (I.length - k);rw[b2,<-bn]at bg;have bo:(I.drop k).length=m:=by rw[Kr,bn]
 have O:bw W4 B (a_ U k c3) (l_ (I.take k)):=by
  obtain⟨-,A2,c2,e1,h⟩:=nE j.dH 0 k (Km _) hle;have e2:sliced U 0 k c3 1=a_ U k c3:=by unfold sliced;cases U with
   |none=>simp
   |some a=>simp[Addr.add]
  rw[e2,Nat.sub_zero]at e1;injection e1 with e3 _ e4;subst e3 e4;simpa using h
 have bp:=lp O;obtain⟨W5,J⟩:=N_ (W4.setCell ⟨w,0,b_⟩ (a_ A5 m c5));have ad:xX w B A5 c5 (I.drop k) left D W5:=j.put HB.o (by rw[J];exact Kept.setCell (F:=(·=w.heap.size)) (p:=⟨w,0,b_⟩) (Kept.refl _ _) (.inl rfl) _) (by rw[J,bo];simpa using ai j.box 0 (a_ A5 m c5)) b3;have G:=Z_ ad;have bb:=Z_ bo;obtain⟨q0,q1,q2⟩:=au j.box;have cg:x_ ((⟨(I.take k).toArray⟩:ByteArray).size=k):=Z_ (by show(I.take k).toArray.size=k;rw[KB,JN];omega);clear j ad b3 b2 O bn bo;generalize b5:(⟨(I.take k).toArray⟩:ByteArray)=s at*;have ch:=Z_ b5;clear b5;go_upto_region 7 with fail;rw[<-J];clear J y0 y1 y2 q0 q1 q2 bg bm bp;obtain⟨y0,y1,y2⟩:=aR G.o.box;obtain⟨r0,r1,r2⟩:=aR G.o.res;obtain⟨s0,s1,s2⟩:=au G.o.res;obtain⟨Wf,ak,a1,a2⟩:=ko (a_ A5 m c5) (.int d_ left) (u_ D) G.o.res;have HE:x_ (P (k_ (J_ #[JI #[a_ A5 m c5,.int d_ left,u_ D],.string s])) Wf):=Z_ (by
  rw[bt.o];obtain⟨h1,h2⟩:=G.o.fin HB.o a2;refine⟨A5,c5,I.drop k,D,s,by rw[bb.o],h1,h2,by rw[bb.o];have:=bb.o;rw[Kr]at this;omega,by rw[cg.o];omega,λs0 l0 h=>?_,λh=>?_,cf.o⟩
  ·rcases M.o with⟨h3,V,X,h6⟩|⟨h3,V,X,h6⟩
   ·match l,h3 with
    |x::l1,_=>
     rw[nQ]at h;have e1:cI ((x::l1).take 1)=x.toNat:=by simp[cI]
     have e2:(x::l1).drop 1=l1:=rfl;rw[e1]at X;rw[e2]at V;rw[G_ (by rw[<-X,<-V];exact hle)]at h;injection h with h;injection h with h7 h8;rw[<-h7,<-h8,<-X,<-V];exact⟨ch.o.symm,rfl,h6⟩
   have:l=[]:=JH O_;subst this;cases h
  rcases M.o with⟨h3,V,X,h6⟩|⟨h3,V,X,h6⟩
  ·match l,h3 with
   |x::l1,_=>
    rw[nQ]at h;have e1:cI ((x::l1).take 1)=x.toNat:=by simp[cI]
    have e2:(x::l1).drop 1=l1:=rfl;rw[e1]at X;rw[e2]at V;rw[G_ (by rw[<-X,<-V];exact hle)]at h;cases h
  exact h6)
 rw[bb.o]at y0;have bj:=Z_ a1;have bk:=Z_ ak;clear a1 a2 ak;go_wp2;rw[<-bk.o];obtain⟨f0,f1,f2⟩:=aR bj.o;refine C_ (v:=J_ #[JI #[a_ A5 m c5,.int d_ left,u_ D],.string s]) (by simp[results,Tryz.results130,go_sem,f0,f1,f2]) rfl ?_;exact HE.o
structure TS(w:j_)(B:Nat)(A:Option Kb)(c:Nat)(l:List UInt8)(lf:Int)(bad:Bool)(k num:Int)(s:ByteArray)(av:m_)(W:j_):Prop where
 box:W.heap[w.heap.size]?=c_ (f_ #[a_ A l.length c,e_ d_ lf,u_ bad] 192 (0,0))
 res:W.heap[w.heap.size+1]?=c_ (f_ #[a_ b_ 0 0,e_ d_ 0,u_ o_] 192 (0,0))
 oD:W.heap[w.heap.size+1+1]?=c_ (f_ #[e_ d_ 0,e_ d_ 0,g_ ⟨#[]⟩,a_ b_ 0 0] 61 (0,0))
 ty:W.heap[w.heap.size+1+1+1]?=c_ (f_ #[e_ d_ k,e_ d_ num,g_ s,av] 61 (0,0))
 dH:bw W B (a_ A l.length c) (l_ l)
 fl:n_ w.heap.size w W
 vc:w.heap.size+4<=W.heap.size
section
variable{w:j_}{B:Nat}{A A':Option Kb}{c c':Nat}{l l':List UInt8}{lf lf':Int}{bad bad':Bool}{k num:Int}{s:ByteArray}{av:m_}{W W':j_}
variable{k' num':Int}{s':ByteArray}{av':m_}
theorem TS.t(h:TS w B A c l lf bad k num s av W)(D:B<=w)(j:n_ W W W'):TS w B A c l lf bad k num s av W':=
 ⟨(j.block _ (ao h.box)).trans h.box,(j.block _ (ao h.res)).trans h.res,(j.block _ (ao h.oD)).trans h.oD,(j.block _ (ao h.ty)).trans h.ty,h.dH.below (j.mono (by have:=h.vc;omega)),h.fl.trans (j.mono h.fl.size),by have:=h.vc;have:=j.size;omega⟩
theorem TS.put(h:TS w B A c l lf bad k num s av W)(D:B<=w)(j:Kept (·=w.heap.size) W W')
  (t:W'.heap[w.heap.size]?=c_ (f_ #[a_ A' l'.length c',e_ d_ lf',u_ bad'] 192 (0,0))) (hs:bw W B (a_ A' l'.length c') (l_ l')):TS w B A' c' l' lf' bad' k num s av W':=by
 have G:=j.size;have h2:=h.vc;refine⟨t,(j.block _ (ao h.res) (by show¬_=_;omega)).trans h.res,(j.block _ (ao h.oD) (by show¬_=_;omega)).trans h.oD,(j.block _ (ao h.ty) (by show¬_=_;omega)).trans h.ty,hs.ae λb o t=>D_ (w:=W) (a:=⟨b,o,b_⟩) (j.block b O_ (by show¬_=_;omega)),h.fl.trans (j.below O_ (λg I=>by omega)),by omega⟩
theorem TS.Hz(h:TS w B A c l lf bad k num s av W)(D:B<=w)(j:Kept (·=w.heap.size+1+1+1) W W')
  (t:W'.heap[w.heap.size+1+1+1]?=c_ (f_ #[e_ d_ k',e_ d_ num',g_ s',av'] 61 (0,0))):TS w B A c l lf bad k' num' s' av' W':=by
 have G:=j.size;have h2:=h.vc;refine⟨(j.block _ (ao h.box) (by show¬_=_;omega)).trans h.box,(j.block _ (ao h.res) (by show¬_=_;omega)).trans h.res,(j.block _ (ao h.oD) (by show¬_=_;omega)).trans h.oD,t,h.dH.ae λb o t=>D_ (w:=W) (a:=⟨b,o,b_⟩) (j.block b O_ (by show¬_=_;omega)),h.fl.trans (j.below O_ (λg I=>by omega)),by omega⟩
theorem TS.AN(h:TS w B A c l lf bad k num s av W)(j:B<=w){i:Nat}{x:m_}
  (t:(W.setCell ⟨w+1+1+1,i,b_⟩ x).heap[w.heap.size+1+1+1]?=c_ (f_ #[e_ d_ k',e_ d_ num',g_ s',av'] 61 (0,0))):TS w B A c l lf bad k' num' s' av' (W.setCell ⟨w+1+1+1,i,b_⟩ x):=
 h.Hz j (Kept.setCell (F:=(·=w.heap.size+1+1+1)) (p:=⟨w+1+1+1,i,b_⟩) (Kept.refl _ _) (.inl rfl) x) t
theorem TS.Je(h:TS w B A c l lf bad k num s av W)(j:B<=w)(k':Int):TS w B A c l lf bad k' num s av (W.setCell ⟨w+1+1+1,0,b_⟩ (e_ d_ k')):=h.AN j (by simpa using ai h.ty 0 (e_ d_ k'))
theorem TS.zb(h:TS w B A c l lf bad k num s av W)(t:B<=w)(j:Int):TS w B A c l lf bad k j s av (W.setCell ⟨w+1+1+1,1,b_⟩ (e_ d_ j)):=h.AN t (by simpa using ai h.ty 1 (e_ d_ j))
theorem TS.setName(h:TS w B A c l lf bad k num s av W)(j:B<=w)(s':ByteArray):TS w B A c l lf bad k num s' av (W.setCell ⟨w+1+1+1,2,b_⟩ (g_ s')):=h.AN j (by simpa using ai h.ty 2 (g_ s'))
theorem TS.setArgs(h:TS w B A c l lf bad k num s av W)(j:B<=w)(av':m_):TS w B A c l lf bad k num s av' (W.setCell ⟨w+1+1+1,3,b_⟩ av'):=h.AN j (by simpa using ai h.ty 3 av')
theorem TS.Ii(h:TS w B A c l lf bad k num s av W)(j:B<=w)(x:Int):TS w B A c l x bad k num s av (W.setCell ⟨w,1,b_⟩ (.int d_ x)):=
 h.put j (Kept.setCell (F:=(·=w.heap.size)) (p:=⟨w,1,b_⟩) (Kept.refl _ _) (.inl rfl) _) (by simpa using ai h.box 1 (.int d_ x)) h.dH
theorem TS.jh(h:TS w B A c l lf bad k num s av W)(j:B<=w)(x:Bool):TS w B A c l lf x k num s av (W.setCell ⟨w,2,b_⟩ (u_ x)):=
 h.put j (Kept.setCell (F:=(·=w.heap.size)) (p:=⟨w,2,b_⟩) (Kept.refl _ _) (.inl rfl) _) (by simpa using ai h.box 2 (u_ x)) h.dH
end
variable{w W W':j_}{B c:Nat}{A:Option Kb}{l:List UInt8}{lf k num:Int}{bad:Bool}{s:ByteArray}
theorem TS.grown{av:m_}{o:Obj}{rv:m_}(h:TS w B A c l lf bad k num s av W)(G:B<=w)
  (j:(W.alloc o).grownBy W' rv.ownBlock) (hr:∀g,rv.ownBlock=c_ g->w.heap.size+4<=g):TS w B A c l lf bad k num s av W':=by
 have h1:=h.vc;have key:∀g,g<w.heap.size+4->W'.heap[g]?=W.heap[g]?:=λg t=>(j.block g (by simp;omega) (λe=>by have:=hr g e.symm;omega)).trans (z_ _ _ _ O_)
 have D:=j.size;simp at D;exact⟨(key _ O_).trans h.box,(key _ O_).trans h.res,(key _ O_).trans h.oD,(key _ O_).trans h.ty,h.dH.ae λb o I=>D_ (w:=W) (a:=⟨b,o,b_⟩) (key b O_),bK h.fl h.fl.size _ j (λg e=>by have:=hr g e;omega),by omega⟩
def Ga(l:List UInt8)(q:Nat)(bad:Bool)(B:Nat)(X:Option (Ty×Nat×List UInt8))(w:j_)(e:Ending)(w':j_):Prop:=
 ∃(T:Ty) (A2:Option Kb) (c2:Nat) (A:Option Kb) (c:Nat) (l':List UInt8) (lf:Int) (bad':Bool),e=k_ (J_ #[JI #[a_ A l'.length c,e_ d_ lf,u_ bad'],cn T.kind T.num T.name A2 T.args.length c2])/\
  aG (λg=>w.heap.size<=g/\g<w'.heap.size) w' (cn T.kind T.num T.name A2 T.args.length c2) T/\T.args.length<=255/\bw w' B (a_ A l'.length c) (l_ l')/\n_ w.heap.size w w'/\l'.length<=l.length/\
  (bad'=o_->∃q':Nat,bad=o_/\X=c_ (T,q',l')/\lf=300 - (q':Int)/\q<=q'/\q'<=300)/\(bad'=v_->bad=v_\/X=b_)
theorem TS.fin{l0:List UInt8}{D:Bool}{A2:Option Kb}{c2:Nat}{ts:List Ty}{q:Nat}{X:Option (Ty×Nat×List UInt8)}(h:TS w B A c l lf bad k num s (a_ A2 ts.length c2) W)(O:B<=w)
  (j:Kept (λg=>g=w.heap.size+1\/g=w.heap.size+1+1) W W') (J:aG (λg=>w.heap.size+4<=g/\g<W.heap.size) W (cn k num s A2 ts.length c2) (.mk k num s ts)) (K:ts.length<=255) (G:l.length<=l0.length)
  (h1:bad=o_->∃t:Nat,D=o_/\X=c_ (.mk k num s ts,t,l)/\lf=300 - (t:Int)/\q<=t/\t<=300) (h2:bad=v_->D=v_\/X=b_):
  Ga l0 q D B X w (k_ (J_ #[JI #[a_ A l.length c,e_ d_ lf,u_ bad],JI #[e_ d_ k,e_ d_ num,g_ s,a_ A2 ts.length c2]])) W':=by
 have U:=j.size;have M:=h.vc;exact⟨.mk k num s ts,A2,c2,A,c,l,lf,bad,rfl,J.ae λg I=>⟨⟨by omega,by omega⟩,j.block g I.2 (by show¬(_\/_);omega)⟩,K,h.dH.ae λb o M=>D_ (w:=W) (a:=⟨b,o,b_⟩) (j.block b O_ (by show¬(_\/_);omega)),h.fl.trans (j.below O_ (λg I=>by omega)),G,h1,h2⟩
theorem Ei(B:Nat)(f:Nat):∀(l:List UInt8) (q:Nat) (bad:Bool) (A:Option Kb) (c:Nat) (lf:Int) (w:j_),bw w B (a_ A l.length c) (l_ l)->B<=w.heap.size->l.length<=1000000000->lf=300 - (q:Int)->q<=300->301<=f+q->
  Calls h_ 131 #[JI #[a_ A l.length c,.int d_ lf,u_ bad]] w (Ga l q bad B (ie f q l) w):=by
 induction f with
 |zero=>intro l q bad A c lf w hs hB hl hJ h1 h2;omega
 |succ f ih=>
  intro l q bad A c lf w hs hB hl hJ hq hf;have IH:=Z_ ih;have G:=Z_ hB;clear ih;obtain⟨Y,hY⟩:=N_ (ie (f+1) q l);have HY:=Z_ hY;rw[<-hY];clear hY;obtain⟨P,hP⟩:=N_ (Ga l q bad B Y w);have e8:=Z_ hP;rw[<-hP];clear hP;have nn:lf<=300 - (q:Int):=by omega
  have nq:300 - (q:Int)<=lf:=by omega
  clear hJ;obtain⟨W4,e9⟩:=N_ ((((w.alloc (f_ #[a_ A l.length c,.int d_ lf,u_ bad] 192)).alloc (f_ #[a_ b_ 0 0,.int d_ 0,u_ o_] 192)).alloc (f_ #[.int d_ 0,.int d_ 0,.string ⟨#[]⟩,a_ b_ 0 0] 61)).alloc (f_ #[.int d_ 0,.int d_ 0,.string ⟨#[]⟩,a_ b_ 0 0] 61));have cF:TS w B A c l lf bad 0 0 ⟨#[]⟩ (a_ b_ 0 0) W4:=by
   rw[e9];have hb:=((((JG w w).alloc L_ (f_ #[a_ A l.length c,.int d_ lf,u_ bad] 192)).alloc (by simp) (f_ #[a_ b_ 0 0,.int d_ 0,u_ o_] 192)).alloc (by simp<;>omega) (f_ #[.int d_ 0,.int d_ 0,.string ⟨#[]⟩,a_ b_ 0 0] 61)).alloc (by simp<;>omega) (f_ #[.int d_ 0,.int d_ 0,.string ⟨#[]⟩,a_ b_ 0 0] 61);refine⟨?_,?_,?_,?_,hs.below (hb.mono hB),hb,by simp⟩
   ·rw[z_ _ _ _ (by simp<;>omega),z_ _ _ _ (by simp<;>omega),z_ _ _ _ (by simp)];exact r_ _ _
   ·rw[z_ _ _ _ (by simp<;>omega),z_ _ _ _ (by simp)]
    simpa using heap_alloc_new (w.alloc (f_ #[a_ A l.length c,.int d_ lf,u_ bad] 192)) (f_ #[a_ b_ 0 0,.int d_ 0,u_ o_] 192)
   ·rw[z_ _ _ _ (by simp)]
    simpa using heap_alloc_new ((w.alloc (f_ #[a_ A l.length c,.int d_ lf,u_ bad] 192)).alloc (f_ #[a_ b_ 0 0,.int d_ 0,u_ o_] 192)) (f_ #[.int d_ 0,.int d_ 0,.string ⟨#[]⟩,a_ b_ 0 0] 61)
   simpa using heap_alloc_new (((w.alloc (f_ #[a_ A l.length c,.int d_ lf,u_ bad] 192)).alloc (f_ #[a_ b_ 0 0,.int d_ 0,u_ o_] 192)).alloc (f_ #[.int d_ 0,.int d_ 0,.string ⟨#[]⟩,a_ b_ 0 0] 61)) (f_ #[.int d_ 0,.int d_ 0,.string ⟨#[]⟩,a_ b_ 0 0] 61)
  have hL:=Z_ cF;have hM:=Z_ (kW l 1 O_ B A c lf bad W4 cF.dH (by have:=cF.vc;omega) hl);obtain⟨y0,y1,y2⟩:=aR cF.box;rw[e9]at y0 y1 y2;clear cF hs hB;have ch:x_ (∀(W W':j_) (A:Option Kb) (c:Nat) (l':List UInt8) (lf':Int) (k:Nat),TS w B A c l' lf' v_ k 0 ⟨#[]⟩ (a_ b_ 0 0) W->Kept (λg=>g=w.heap.size+1\/g=w.heap.size+1+1) W W'->l'.length<=l.length->(bad=v_\/Y=b_)->P (k_ (J_ #[JI #[a_ A l'.length c,.int d_ lf',u_ v_],JI #[.int d_ (k:Int),.int d_ 0,.string ⟨#[]⟩,a_ b_ 0 0]])) W'):=Z_ λW W' A c l' lf' k hT hk l6 hb=>by
   rw[e8.o];exact TS.fin (A2:=b_) (c2:=0) (ts:=[]) hT G.o hk (aG.leaf _ _ (k:Int) 0 ⟨#[]⟩ b_ 0 (by simp[maxLen]) (by decide)) (by decide) l6 (λh=>by cases h) (λ_=>hb)
  go_enter Tryz.func131,Tryz.ntmps131;go_wp2_with fail;rw[<-e9];clear e9 y0 y1 y2;refine hM.o.mono ?_;rintro e w5 ⟨A5,c5,l5,cp,k,rfl,hN,hO,ck⟩;obtain⟨hQ,-,df,hR⟩:=vn.len O_ ck;have mb:=df rfl;have cl:=Z_ ck;have cm:=hL.o.t G.o hO;obtain⟨Wa,M,I,D⟩:=ko (a_ A5 l5.length c5) (.int d_ lf) (u_ cp) cm.box;have cf:=cm.put G.o D I hN;obtain⟨W6,ha⟩:=N_ (Wa.setCell ⟨w+1+1+1,0,b_⟩ (.int d_ (k:Int)));have hU:TS w B A5 c5 l5 lf cp (k:Int) 0 ⟨#[]⟩ (a_ b_ 0 0) W6:=by rw[ha];exact cf.Je G.o _
  have fb:=Z_ hU;have ml:=Z_ hR;obtain⟨y0,y1,y2⟩:=aR cm.box;obtain⟨z0,z1,z2,z3⟩:=aX cm.ty;obtain⟨q0,q1,q2⟩:=au cm.box;obtain⟨f0,f1,f2,f3⟩:=aC cm.ty;clear ck df hN hO cm D I cf hM hL hR hU;go_upto_region 3 with fail;rw[<-M,<-ha];clear M ha y0 y1 y2 z0 z1 z2 z3 q0 q1 q2 f0 f1 f2 f3;obtain⟨y0,y1,y2⟩:=aR fb.o.box;obtain⟨q0,q1,q2⟩:=au fb.o.box;obtain⟨W7,hd⟩:=N_ (W6.setCell ⟨w,1,b_⟩ (.int d_ (lf - 1)));have bj:x_ (TS w B A5 c5 l5 (lf - 1) cp (k:Int) 0 ⟨#[]⟩ (a_ b_ 0 0) W7):=Z_ (by rw[hd];exact fb.o.Ii G.o _);go_upto_region 4 with fail;rw[<-hd];clear hd y0 y1 y2 q0 q1 q2 fb;obtain⟨y0,y1,y2⟩:=aR bj.o.box;obtain⟨q0,q1,q2⟩:=au bj.o.box;by_cases n1:q=300
  ·have nr:lf - 1<0:=by omega
   have hh:x_ (bad=v_\/Y=b_):=Z_ (.inr (by rw[HY.o,ie,G_ O_]));obtain⟨WW,X⟩:=N_ (W7.setCell ⟨w,2,b_⟩ (u_ v_));have HT:x_ (TS w B A5 c5 l5 (lf - 1) v_ (k:Int) 0 ⟨#[]⟩ (a_ b_ 0 0) WW):=Z_ (by rw[X];exact bj.o.jh G.o v_);obtain⟨b0,b1,b2⟩:=aR HT.o.box;rw[X]at b0 b1 b2;go_upto_region 7 with fail;rw[<-X];clear X y0 y1 y2 q0 q1 q2 b0 b1 b2 bj;have j:=Z_ (HT.o.t G.o (B_.drew));generalize bk:WW.drew=V at*;obtain⟨r0,r1,r2⟩:=aR j.o.res;obtain⟨t0,t1,t2,t3⟩:=aX j.o.oD;obtain⟨s0,s1,s2⟩:=au j.o.res;obtain⟨v0,v1,v2,v3⟩:=aC j.o.oD;refine KE (S:=λW:j_=>W.heap[w.heap.size]?=V.heap[w.heap.size]?/\W.heap[w.heap.size+1+1+1]?=V.heap[w.heap.size+1+1+1]?) K_ ?_;rw[show({heap:=WW.heap,tape:=WW.tape,drawn:=WW.drawn+1,os:=WW.os,output:=WW.output}:j_)=V from bk];clear bk;refine ki (i:=0) (s:=26) (v:=JI #[a_ A5 l5.length c5,.int d_ (lf - 1),u_ v_]) rfl rfl K_ K_ K_ (λ_ _ _ h=>h) (Ke ⟨by rfl,λw' hS=>by obtain⟨hA,hB⟩:=hS;obtain⟨e0,e1,e2⟩:=aR (hA.trans j.o.box);go_simp⟩) ⟨rfl,rfl⟩ ?_;try simp only[JE,J0,J3]
   refine ki (i:=1) (s:=27) (v:=JI #[.int d_ (k:Int),.int d_ 0,.string ⟨#[]⟩,a_ b_ 0 0]) rfl rfl K_ K_ K_ (λ_ _ _ h=>h) (Ke ⟨by rfl,λw' hS=>by obtain⟨hA,hB⟩:=hS;obtain⟨e0,e1,e2,e3⟩:=aX (hB.trans j.o.ty);go_simp⟩) ⟨rfl,rfl⟩ ?_;try simp only[JE,J0,J3]
   refine K3 (rs:=[2]) K_ (by simp) ?_;intro i hi;simp only[JL,Ky,Lw]at hi;subst hi;obtain⟨Wa,M,I,D⟩:=ko (a_ A5 l5.length c5) (.int d_ (lf - 1)) (u_ v_) j.o.res;have O:=(D.block _ (ao j.o.oD) (by show¬_=_;omega)).trans j.o.oD;obtain⟨Wb,bf,bg,J⟩:=sx (.int d_ (k:Int)) (.int d_ 0) (.string ⟨#[]⟩) (a_ b_ 0 0) O;have bm:=(J.block _ (ao I) (by show¬_=_;omega)).trans I;have bn:=bg;have U:Kept (λg=>g=w.heap.size+1\/g=w.heap.size+1+1) V Wb:=(D.mono λg _ h=>.inl h).trans' (J.mono λg _ h=>.inr h);obtain⟨v0,v1,v2,v3⟩:=aC O;obtain⟨t0,t1,t2,t3⟩:=aX O;have bO:x_ (Wa.heap[w.heap.size]?=V.heap[w.heap.size]?/\Wa.heap[w.heap.size+1+1+1]?=V.heap[w.heap.size+1+1+1]?):=Z_ ⟨D.block _ (ao j.o.box) (by show¬_=_;omega),D.block _ (ao j.o.ty) (by show¬_=_;omega)⟩;have bR:x_ (Wb.heap[w.heap.size]?=V.heap[w.heap.size]?/\Wb.heap[w.heap.size+1+1+1]?=V.heap[w.heap.size+1+1+1]?):=Z_ ⟨U.block _ (ao j.o.box) (by show¬(_\/_);omega),U.block _ (ao j.o.ty) (by show¬(_\/_);omega)⟩;have b5:=Z_ M;have bt:=Z_ bf;have b6:=Z_ bm;have cb:=Z_ bn;have HE:=Z_ (ch.o V Wb A5 c5 l5 (lf - 1) k j.o U hQ hh.o);clear M bf bm bn I bg D J U O;refine fN rfl rfl (λK hK=>?_);go_simp;rw[<-b5.o];refine kk hK bO.o ?_;refine ag 3 λK hK=>?_
   go_simp;rw[<-bt.o];refine kk hK bR.o ?_;refine J6 K_ ?_ _;go_wp2;obtain⟨f0,f1,f2⟩:=aR b6.o;obtain⟨g0,g1,g2,g3⟩:=aX cb.o;refine C_ (v:=J_ #[JI #[a_ A5 l5.length c5,.int d_ (lf - 1),u_ v_],JI #[.int d_ (k:Int),.int d_ 0,.string ⟨#[]⟩,a_ b_ 0 0]]) (by simp[results,Tryz.results131,go_sem,f0,f1,f2,g0,g1,g2,g3]) rfl ?_;exact HE.o
  have mv:q+1<=300:=by omega
  have n2:¬(lf - 1<0):=by omega
  have ho:x_ (Y=sR (ie f) (q+1) l):=Z_ (by rw[HY.o,ie,I_ O_]);cases cp with
  |true=>
   have hh:x_ (bad=v_\/Y=b_):=Z_ (by
    rcases cl.o with⟨h1,h2,h3,h4⟩|⟨h1,h2,h3,h4⟩
    ·exact .inl h4.symm
    have:l=[]:=JH O_;right;rw[ho.o,this,sR])
   obtain⟨WW,X⟩:=N_ (W7);have HT:=bj;rw[<-X]at HT;go_upto_region 7 with fail;rw[<-X];clear X y0 y1 y2 q0 q1 q2 bj;have j:=Z_ (HT.o.t G.o (B_.drew));generalize bk:WW.drew=V at*;obtain⟨r0,r1,r2⟩:=aR j.o.res;obtain⟨t0,t1,t2,t3⟩:=aX j.o.oD;obtain⟨s0,s1,s2⟩:=au j.o.res;obtain⟨v0,v1,v2,v3⟩:=aC j.o.oD;refine KE (S:=λW:j_=>W.heap[w.heap.size]?=V.heap[w.heap.size]?/\W.heap[w.heap.size+1+1+1]?=V.heap[w.heap.size+1+1+1]?) K_ ?_;rw[show({heap:=WW.heap,tape:=WW.tape,drawn:=WW.drawn+1,os:=WW.os,output:=WW.output}:j_)=V from bk];clear bk;refine ki (i:=0) (s:=26) (v:=JI #[a_ A5 l5.length c5,.int d_ (lf - 1),u_ v_]) rfl rfl K_ K_ K_ (λ_ _ _ h=>h) (Ke ⟨by rfl,λw' hS=>by obtain⟨hA,hB⟩:=hS;obtain⟨e0,e1,e2⟩:=aR (hA.trans j.o.box);go_simp⟩) ⟨rfl,rfl⟩ ?_;try simp only[JE,J0,J3]
   refine ki (i:=1) (s:=27) (v:=JI #[.int d_ (k:Int),.int d_ 0,.string ⟨#[]⟩,a_ b_ 0 0]) rfl rfl K_ K_ K_ (λ_ _ _ h=>h) (Ke ⟨by rfl,λw' hS=>by obtain⟨hA,hB⟩:=hS;obtain⟨e0,e1,e2,e3⟩:=aX (hB.trans j.o.ty);go_simp⟩) ⟨rfl,rfl⟩ ?_;try simp only[JE,J0,J3]
   refine K3 (rs:=[2]) K_ (by simp) ?_;intro i hi;simp only[JL,Ky,Lw]at hi;subst hi;obtain⟨Wa,M,I,D⟩:=ko (a_ A5 l5.length c5) (.int d_ (lf - 1)) (u_ v_) j.o.res;have O:=(D.block _ (ao j.o.oD) (by show¬_=_;omega)).trans j.o.oD;obtain⟨Wb,bf,bg,J⟩:=sx (.int d_ (k:Int)) (.int d_ 0) (.string ⟨#[]⟩) (a_ b_ 0 0) O;have bm:=(J.block _ (ao I) (by show¬_=_;omega)).trans I;have bn:=bg;have U:Kept (λg=>g=w.heap.size+1\/g=w.heap.size+1+1) V Wb:=(D.mono λg _ h=>.inl h).trans' (J.mono λg _ h=>.inr h);obtain⟨v0,v1,v2,v3⟩:=aC O;obtain⟨t0,t1,t2,t3⟩:=aX O;have bO:x_ (Wa.heap[w.heap.size]?=V.heap[w.heap.size]?/\Wa.heap[w.heap.size+1+1+1]?=V.heap[w.heap.size+1+1+1]?):=Z_ ⟨D.block _ (ao j.o.box) (by show¬_=_;omega),D.block _ (ao j.o.ty) (by show¬_=_;omega)⟩;have bR:x_ (Wb.heap[w.heap.size]?=V.heap[w.heap.size]?/\Wb.heap[w.heap.size+1+1+1]?=V.heap[w.heap.size+1+1+1]?):=Z_ ⟨U.block _ (ao j.o.box) (by show¬(_\/_);omega),U.block _ (ao j.o.ty) (by show¬(_\/_);omega)⟩;have b5:=Z_ M;have bt:=Z_ bf;have b6:=Z_ bm;have cb:=Z_ bn;have HE:=Z_ (ch.o V Wb A5 c5 l5 (lf - 1) k j.o U hQ hh.o);clear M bf bm bn I bg D J U O;refine fN rfl rfl (λK hK=>?_);go_simp;rw[<-b5.o];refine kk hK bO.o ?_;refine ag 3 λK hK=>?_
   go_simp;rw[<-bt.o];refine kk hK bR.o ?_;refine J6 K_ ?_ _;go_wp2;obtain⟨f0,f1,f2⟩:=aR b6.o;obtain⟨g0,g1,g2,g3⟩:=aX cb.o;refine C_ (v:=J_ #[JI #[a_ A5 l5.length c5,.int d_ (lf - 1),u_ v_],JI #[.int d_ (k:Int),.int d_ 0,.string ⟨#[]⟩,a_ b_ 0 0]]) (by simp[results,Tryz.results131,go_sem,f0,f1,f2,g0,g1,g2,g3]) rfl ?_;exact HE.o
  |false=>
  have HG:x_ (bad=o_/\Y=oY (ie f) (q+1) k l5):=Z_ (by
   rcases cl.o with⟨h1,h2,h3,h4⟩|⟨h1,h2,h3,h4⟩
   ·match l,h1 with
    |x::l1,_=>
     have e1:cI ((x::l1).take 1)=x.toNat:=by simp[cI]
     have e2:(x::l1).drop 1=l1:=rfl;refine⟨h4.symm,?_⟩;rw[ho.o,sR,h3,h2,e1,e2]
   cases h4)
  clear cl ho ml ch;obtain⟨z0,z1,z2,z3⟩:=aX bj.o.ty;have fz:l5.length<=1000000000:=by omega
  have dv:B<=W7:=by have:=bj.o.vc;have:=G.o;omega
  by_cases df:k=1
  ·subst df
   have eb:=Z_ (kW l5 4 O_ B A5 c5 (lf - 1) o_ W7 bj.o.dH dv fz);go_wp2_with fail;refine eb.o.mono ?_;rintro e w8 ⟨A8,c8,l8,Z,k8,rfl,ec,ee,bx⟩;obtain⟨hV,-,-,-⟩:=vn.len O_ bx;have ba:=bj.o.t G.o ee;obtain⟨Wa,M,I,D⟩:=ko (a_ A8 l8.length c8) (.int d_ (lf - 1)) (u_ Z) ba.box;have cf:=ba.put G.o D I ec;obtain⟨WW,X⟩:=N_ (Wa.setCell ⟨w+1+1+1,1,b_⟩ (.int d_ (k8:Int)));have HT:x_ (TS w B A8 c8 l8 (lf - 1) Z 1 (k8:Int) ⟨#[]⟩ (a_ b_ 0 0) WW):=Z_ (by rw[X];exact cf.zb G.o _);have m0:x_ (Z=o_->∃q':Nat,bad=o_/\Y=c_ (.mk 1 (k8:Int) ⟨#[]⟩ [],q',l8)/\lf - 1=300 - (q':Int)/\q<=q'/\q'<=300):=Z_ λe=>by
    rcases bx with⟨h1,h2,h3,h4⟩|⟨h1,h2,h3,h4⟩
    ·refine⟨q+1,HG.o.1,?_,by omega,by omega,by omega⟩
     rw[HG.o.2,oY,G_ rfl,G_ h1,h2,h3]
    rw[h4]at e;cases e
   have m1:x_ (Z=v_->bad=v_\/Y=b_):=Z_ λe=>by
    rcases bx with⟨h1,h2,h3,h4⟩|⟨h1,h2,h3,h4⟩
    ·rw[h4]at e;cases e
    right;rw[HG.o.2,oY,G_ rfl,I_ O_]
   have hW:l8.length<=l.length:=by omega
   obtain⟨a0,a1,a2⟩:=aR ba.box;obtain⟨b0,b1,b2,b3⟩:=aX ba.ty;obtain⟨cr,ct,cu⟩:=au ba.box;obtain⟨d0,d1,d2,d3⟩:=aC ba.ty;clear y0 y1 y2 q0 q1 q2 z0 z1 z2 z3 bj bx ec ee ba I D cf eb;go_upto_region 10 with fail;rw[<-M,<-X];clear M X a0 a1 a2 b0 b1 b2 b3 cr ct cu d0 d1 d2 d3;have j:=Z_ (HT.o.t G.o (B_.drew));generalize bk:WW.drew=V at*;obtain⟨r0,r1,r2⟩:=aR j.o.res;obtain⟨t0,t1,t2,t3⟩:=aX j.o.oD;obtain⟨s0,s1,s2⟩:=au j.o.res;obtain⟨v0,v1,v2,v3⟩:=aC j.o.oD;refine KE (S:=λW:j_=>W.heap[w.heap.size]?=V.heap[w.heap.size]?/\W.heap[w.heap.size+1+1+1]?=V.heap[w.heap.size+1+1+1]?) K_ ?_;rw[show({heap:=WW.heap,tape:=WW.tape,drawn:=WW.drawn+1,os:=WW.os,output:=WW.output}:j_)=V from bk];clear bk;refine ki (i:=0) (s:=37) (v:=JI #[a_ A8 l8.length c8,.int d_ (lf - 1),u_ Z]) rfl rfl K_ K_ K_ (λ_ _ _ h=>h) (Ke ⟨by rfl,λw' hS=>by obtain⟨hA,hB⟩:=hS;obtain⟨e0,e1,e2⟩:=aR (hA.trans j.o.box);go_simp⟩) ⟨rfl,rfl⟩ ?_;try simp only[JE,J0,J3]
   refine ki (i:=1) (s:=38) (v:=JI #[.int d_ 1,.int d_ (k8:Int),.string ⟨#[]⟩,a_ b_ 0 0]) rfl rfl K_ K_ K_ (λ_ _ _ h=>h) (Ke ⟨by rfl,λw' hS=>by obtain⟨hA,hB⟩:=hS;obtain⟨e0,e1,e2,e3⟩:=aX (hB.trans j.o.ty);go_simp⟩) ⟨rfl,rfl⟩ ?_;try simp only[JE,J0,J3]
   refine K3 (rs:=[2]) K_ (by simp) ?_;intro i hi;simp only[JL,Ky,Lw]at hi;subst hi;obtain⟨Wa,M,I,D⟩:=ko (a_ A8 l8.length c8) (.int d_ (lf - 1)) (u_ Z) j.o.res;have O:=(D.block _ (ao j.o.oD) (by show¬_=_;omega)).trans j.o.oD;obtain⟨Wb,bf,bg,J⟩:=sx (.int d_ 1) (.int d_ (k8:Int)) (.string ⟨#[]⟩) (a_ b_ 0 0) O;have bm:=(J.block _ (ao I) (by show¬_=_;omega)).trans I;have bn:=bg;have U:Kept (λg=>g=w.heap.size+1\/g=w.heap.size+1+1) V Wb:=(D.mono λg _ h=>.inl h).trans' (J.mono λg _ h=>.inr h);obtain⟨v0,v1,v2,v3⟩:=aC O;obtain⟨t0,t1,t2,t3⟩:=aX O;have bO:x_ (Wa.heap[w.heap.size]?=V.heap[w.heap.size]?/\Wa.heap[w.heap.size+1+1+1]?=V.heap[w.heap.size+1+1+1]?):=Z_ ⟨D.block _ (ao j.o.box) (by show¬_=_;omega),D.block _ (ao j.o.ty) (by show¬_=_;omega)⟩;have bR:x_ (Wb.heap[w.heap.size]?=V.heap[w.heap.size]?/\Wb.heap[w.heap.size+1+1+1]?=V.heap[w.heap.size+1+1+1]?):=Z_ ⟨U.block _ (ao j.o.box) (by show¬(_\/_);omega),U.block _ (ao j.o.ty) (by show¬(_\/_);omega)⟩;have b5:=Z_ M;have bt:=Z_ bf;have b6:=Z_ bm;have cb:=Z_ bn;have HE:x_ (P (k_ (J_ #[JI #[a_ A8 l8.length c8,.int d_ (lf - 1),u_ Z],JI #[.int d_ 1,.int d_ (k8:Int),.string ⟨#[]⟩,a_ b_ 0 0]])) Wb):=Z_ (by rw[e8.o];exact TS.fin (A2:=b_) (c2:=0) (ts:=[]) j.o G.o U (aG.leaf _ _ 1 (k8:Int) ⟨#[]⟩ b_ 0 (by simp[maxLen]) (by decide)) (by decide) hW m0.o m1.o);clear M bf bm bn I bg D J U O;refine fN rfl rfl (λK hK=>?_);go_simp;rw[<-b5.o];refine kk hK bO.o ?_;refine ag 3 λK hK=>?_
   go_simp;rw[<-bt.o];refine kk hK bR.o ?_;refine J6 K_ ?_ _;go_wp2;obtain⟨f0,f1,f2⟩:=aR b6.o;obtain⟨g0,g1,g2,g3⟩:=aX cb.o;refine C_ (v:=J_ #[JI #[a_ A8 l8.length c8,.int d_ (lf - 1),u_ Z],JI #[.int d_ 1,.int d_ (k8:Int),.string ⟨#[]⟩,a_ b_ 0 0]]) (by simp[results,Tryz.results131,go_sem,f0,f1,f2,g0,g1,g2,g3]) rfl ?_;exact HE.o
  have hX:¬((k:Int)=1):=by omega
  have h6:((k:Int)==1)=false:=by simp;omega
  go_upto_if 41 with fail
  go_cut []from 41 to 47 (λwx=>∃(A3:Option Kb) (c3:Nat) (l3:List UInt8) (bN:Bool) (s:ByteArray),x_ (TS w B A3 c3 l3 (lf - 1) bN (k:Int) 0 s (a_ b_ 0 0) wx)/\s.size<=255/\l3.length<=l5.length/\x_ ((bN=o_->Y=dV (ie f) (k:Int) s (q+1) l3)/\(bN=v_->Y=b_)))
  case first=>
   by_cases h7:k=2
   ·subst h7
    have eb:=Z_ (tA l5 B A5 c5 (lf - 1) o_ W7 bj.o.dH dv fz);go_wp2_with fail;refine eb.o.mono ?_;rintro e w8 ⟨A8,c8,l8,Z,s8,rfl,ec,ee,hV,h8,gi,gn,-⟩;have ba:=bj.o.t G.o ee;obtain⟨Wa,M,I,D⟩:=ko (a_ A8 l8.length c8) (.int d_ (lf - 1)) (u_ Z) ba.box;have cf:=ba.put G.o D I ec;obtain⟨WW,X⟩:=N_ (Wa.setCell ⟨w+1+1+1,2,b_⟩ (.string s8));have HT:x_ (TS w B A8 c8 l8 (lf - 1) Z 2 0 s8 (a_ b_ 0 0) WW):=Z_ (by rw[X];exact cf.setName G.o _);have ht:x_ ((Z=o_->Y=dV (ie f) 2 s8 (q+1) l8)/\(Z=v_->Y=b_)):=Z_ (by
     have hy:=HG.o.2;rw[oY,I_ (by decide),G_ rfl]at hy;cases hn:nQ l5 with
     |none=>
      rw[hn]at hy;exact⟨λe=>(by have:=gn hn;rw[e]at this;cases this),λ_=>hy⟩
     |some y=>
      obtain⟨s0,l0⟩:=y;obtain⟨h1,h2,h3⟩:=gi s0 l0 hn;rw[hn]at hy;exact⟨λ_=>(by rw[hy,h1,h2]),λe=>(by rw[h3]at e;cases e)⟩)
    obtain⟨a0,a1,a2⟩:=aR ba.box;obtain⟨b0,b1,b2,b3⟩:=aX ba.ty;obtain⟨cr,ct,cu⟩:=au ba.box;obtain⟨d0,d1,d2,d3⟩:=aC ba.ty;clear y0 y1 y2 q0 q1 q2 z0 z1 z2 z3 bj gi gn ec ee ba I D cf eb;go_wp2;rw[<-M,<-X];go_meet;exact⟨A8,c8,l8,Z,s8,HT,h8,hV,ht⟩
   have ns:¬((k:Int)=2):=by omega
   have nu:((k:Int)==2)=false:=by simp;omega
   have ht:x_ (Y=dV (ie f) (k:Int) ⟨#[]⟩ (q+1) l5):=Z_ (by rw[HG.o.2,oY,I_ df,I_ h7]);go_wp2;go_meet;exact⟨A5,c5,l5,o_,⟨#[]⟩,bj,by decide,Kh _,Z_ ⟨λ_=>ht.o,λe=>by cases e⟩⟩
  obtain⟨A3,c3,l3,bN,s,eg,n3,n4,en⟩:=hcut;clear y0 y1 y2 q0 q1 q2 z0 z1 z2 z3 bj h6 hX dv;have h9:l3.length<=1000000000:=by omega
  have gp:=Z_ (kW l3 1 O_ B A3 c3 (lf - 1) bN wc eg.o.dH (by have:=eg.o.vc;have:=G.o;omega) h9);obtain⟨y0,y1,y2⟩:=aR eg.o.box;go_wp2_with fail;clear y0 y1 y2;refine gp.o.mono ?_;rintro e w9 ⟨A9,c9,l9,bo,n,rfl,j0,cv,cc⟩;obtain⟨oi,-,j1,-⟩:=vn.len O_ cc;have m2:=j1 rfl;have eo:=eg.o.t G.o cv;obtain⟨Wa,M,I,D⟩:=ko (a_ A9 l9.length c9) (.int d_ (lf - 1)) (u_ bo) eo.box;have HT:=Z_ (eo.put G.o D I j0);have hv:x_ ((bo=o_->(∀ts q' l',ez (ie f) n [] (q+1) l9=c_ (ts,q',l')->Y=c_ (.mk (k:Int) 0 s ts,q',l'))/\(ez (ie f) n [] (q+1) l9=b_->Y=b_))/\(bo=v_->Y=b_)):=Z_ (by
   rcases cc with⟨h1,h2,h3,h4⟩|⟨h1,h2,h3,h4⟩
   ·match l3,h1 with
    |x::l1,_=>
     have e1:cI ((x::l1).take 1)=x.toNat:=by simp[cI]
     have e2:(x::l1).drop 1=l1:=rfl;rw[e1]at h3;rw[e2]at h2;subst h4;refine⟨λe=>?_,en.o.2⟩;have hy:=en.o.1 e;rw[dV,<-h3,<-h2]at hy;refine⟨λts q' l' h=>?_,λh=>?_⟩
     ·rw[h]at hy;exact hy
     rw[h]at hy;exact hy
   have:l3=[]:=JH O_;refine⟨λe=>(by rw[h4]at e;cases e),λ_=>?_⟩;cases j2:bN with
   |true=>exact en.o.2 j2
   |false=>rw[en.o.1 j2,this,dV])
  obtain⟨a0,a1,a2⟩:=aR eo.box;obtain⟨cr,ct,cu⟩:=au eo.box;have nv:l9.length<=1000000000:=by omega
  have nw:l9.length<=l.length:=by omega
  clear cc j1 j0 cv eo I D gp en eg;go_upto_region 15 with fail;rw[<-M];clear M a0 a1 a2 cr ct cu
  go_loopw [6] (λiv W=>∃(m q2:Nat) (A2:Option Kb) (c2:Nat) (l2:List UInt8) (bp:Int) (ad:Bool) (ts:List Ty) (us:List m_) (bb:Option Kb) (bd:Nat),m<=n/\iv=.int d_ m/\x_ (TS w B A2 c2 l2 bp ad (k:Int) 0 s (a_ bb m bd) W)/\x_ (az 61 4 aG (w+4) (w+4) W ts (a_ bb m bd) us)/\ts.length=m/\l2.length<=l9.length/\
   x_ ((ad=o_->bo=o_/\bp=300 - (q2:Int)/\q+1<=q2/\q2<=300/\ez (ie f) (n - m) ts q2 l2=ez (ie f) n [] (q+1) l9)/\(ad=v_->bo=v_\/ez (ie f) n [] (q+1) l9=b_))) (λiv _=>n - (A_ iv).toNat)
  case atStart=>
   exact⟨0,q+1,A9,c9,l9,lf - 1,bo,[],[],b_,0,by omega,rfl,HT,Z_ ⟨rfl,Mf _ _ _ _,by simp,λi h=>by simp at h⟩,rfl,Kh _,Z_ ⟨λe=>⟨e,by omega,Kh _,mv,rfl⟩,λe=>.inl e⟩⟩
  obtain⟨m,q2,A2,c2,l2,bp,ad,ts,us,bb,bd,hm,rfl,cx,HR,ev,oj,hz⟩:=hrel;obtain⟨y0,y1,y2⟩:=aR cx.o.box;by_cases hD:m<n/\ad=o_
  ·obtain⟨m3,rfl⟩:=hD
   obtain⟨gv,eA,nB,j3,cg⟩:=hz.o.1 rfl;have j4:=Z_ (IH.o l2 q2 o_ A2 c2 bp wr cx.o.dH (by have:=cx.o.vc;have:=G.o;omega) O_ eA j3 O_);have hE:=Z_ cg;have j6:=Z_ gv;clear cg eA gv;go_wp2_with fail;refine j4.o.mono ?_;rintro e w6 ⟨T,A6,c6,A7,c7,l7,bB,ak,rfl,cB,m4,kf,fi,ot,gy,gz⟩;unfold cn at cB⊢;go_upto_region 18 with fail;obtain⟨Wc,eC⟩:=N_ ((w6.alloc (f_ #[a_ A7 l7.length c7,.int d_ bB,u_ ak] 192)).alloc (f_ #[.int d_ T.kind,.int d_ T.num,.string T.name,a_ A6 T.args.length c6] 61));rw[<-eC];have cE:n_ w6 w6 Wc:=by rw[eC];exact(B_.alloc L_ _).alloc (by simp) _
   have kh:Wc.heap[w6.heap.size]?=c_ (f_ #[a_ A7 l7.length c7,.int d_ bB,u_ ak] 192 (0,0)):=by
    rw[eC,z_ _ _ _ (by simp)];exact r_ _ _
   have hF:Wc.heap[w6.heap.size+1]?=c_ (f_ #[.int d_ T.kind,.int d_ T.num,.string T.name,a_ A6 T.args.length c6] 61 (0,0)):=by
    rw[eC];simpa using heap_alloc_new (w6.alloc (f_ #[a_ A7 l7.length c7,.int d_ bB,u_ ak] 192)) (f_ #[.int d_ T.kind,.int d_ T.num,.string T.name,a_ A6 T.args.length c6] 61)
   have e5:=(cx.o.t G.o fi).t G.o cE;have ov:=cx.o.vc;have nP:=fi.size;have ox:=cE.size;obtain⟨Wb,bf,bg,J⟩:=ko (a_ A7 l7.length c7) (.int d_ bB) (u_ ak) e5.box;have km:=e5.put G.o J bg (kf.below (cE.mono (by have:=G.o;omega)));have o0:=J.size;have hG:=az.oL (R:=aG) aG.ae (w':=Wb) (az.below (R:=aG) aG.ae (az.below (R:=aG) aG.ae HR.o fi) cE) (Lo:=w.heap.size+4) L_ L_ (λg h1 h2=>J.block g h2 (by show¬_=_;omega)) J.size;have g4:aG (λg=>wr.heap.size<=g/\g<w6.heap.size) Wb (cn T.kind T.num T.name A6 T.args.length c6) T:=cB.ae λg hg=>⟨hg,(J.block g O_ (by show¬_=_;omega)).trans (cE.block g hg.2)⟩
   have g5:=(J.block _ (ao hF) (by show¬_=_;omega)).trans hF;obtain⟨kn,hH⟩:=N_ (us.flatMap cX);have g6:=hG.own;rw[<-hH,ev]at g6;obtain⟨q7,kr⟩:∃q7:Nat,ak=o_->(ie f q2 l2=c_ (T,q7,l7)/\bB=300 - (q7:Int)/\q2<=q7/\q7<=300):=by
    cases ak with
    |true=>exact⟨0,λe=>by cases e⟩
    |false=>obtain⟨q',-,h⟩:=gy rfl;exact⟨q',λ_=>h⟩
   have ks:x_ ((ak=o_->bo=o_/\bB=300 - (q7:Int)/\q+1<=q7/\q7<=300/\ez (ie f) (n - (m+1)) (ts++[T]) q7 l7=ez (ie f) n [] (q+1) l9)/\(ak=v_->bo=v_\/ez (ie f) n [] (q+1) l9=b_)):=Z_ ⟨λe=>by
     obtain⟨h1,h2,h3,h4⟩:=kr e;have cg:=hE.o;rw[show n - m=(n - (m+1))+1 by omega,ez,h1]at cg;exact⟨j6.o,h2,by omega,h4,cg⟩,λe=>by
     right;have cg:=hE.o;rw[show n - m=(n - (m+1))+1 by omega,ez,(gz e).resolve_left (by decide)]at cg;exact cg.symm⟩
   have k0:=Z_ km;have m7:=Z_ hG;have k1:=Z_ g4;have nb:=Z_ hH;have k2:=Z_ g5;have bt:=Z_ bf;have k3:x_ (∀g,(a_ bb m bd).ownBlock=c_ g->w.heap.size+4<=g/\g<wr.heap.size):=Z_ λg e=>HR.o.lt g e
   have k4:x_ (∀(v8:m_) (w8:j_),w8.ownsRow (w+4) 61 4 v8 (m+1) (kn++[.int d_ T.kind,.int d_ T.num,.string T.name,a_ A6 T.args.length c6])->(Wb.alloc (f_ #[.int d_ T.kind,.int d_ T.num,.string T.name,a_ A6 T.args.length c6] 61)).grownBy w8 (a_ bb m bd).ownBlock->(v8.ownBlock=(a_ bb m bd).ownBlock\/v8.ownBlock=c_ (Wb.alloc (f_ #[.int d_ T.kind,.int d_ T.num,.string T.name,a_ A6 T.args.length c6] 61)).heap.size)->
     x_ (TS w B A7 c7 l7 bB ak (k:Int) 0 s (a_ bb m bd) w8)/\x_ (TS w B A7 c7 l7 bB ak (k:Int) 0 s v8 (w8.setCell ⟨w+1+1+1,3,b_⟩ v8))/\x_ (az 61 4 aG (w+4) (w+4) (w8.setCell ⟨w+1+1+1,3,b_⟩ v8) (ts++[T]) v8 (us++[cn T.kind T.num T.name A6 T.args.length c6]))):=Z_ (by
    intro v8 w8 cd fr e6;have ba:=k0.o.grown G.o fr λg e=>(k3.o g e).1
    have nc:=az.next (R:=aG) aG.ae m7.o (u:=cn T.kind T.num T.name A6 T.args.length c6) (x:=T) (v':=v8) (w3:=w8) k1.o (λg hg=>⟨by omega,by omega,λe=>by have:=(k3.o g e).2;omega⟩) rfl _ (by rw[ev,<-nb.o];exact cd) fr e6;exact⟨Z_ ba,Z_ (ba.setArgs G.o v8),Z_ (az.oL (R:=aG) aG.ae nc (Lo:=w.heap.size+4) L_ L_ (λg h1 h2=>JZ _ _ _ _ (by show g≠w.heap.size+1+1+1;omega)) (by simp[Kd]))⟩)
   obtain⟨a0,a1,a2⟩:=aR e5.box;obtain⟨b0,b1,b2⟩:=aR kh;obtain⟨cr,ct,cu⟩:=au e5.box;have n0:w.heap.size+4<=Wb.heap.size:=by omega
   clear cB gy gz kf fi cE kh hF e5 bg J km hG g4 g5 hH bf eC kr j4 hE y0 y1 y2;go_upto_region 19 with fail;rw[<-bt.o];clear bt a0 a1 a2 b0 b1 b2 cr ct cu;obtain⟨z0,z1,z2,z3⟩:=aX k0.o.ty;obtain⟨d0,d1,d2,d3⟩:=aX k2.o;go_wp2_with (at_builtin;refine dc _ rfl _ _ _ rfl (w+4) _ 4 Iv _ m kn rfl (Kf g6 _) ⟨Wb,0,b_⟩ 1 1 [.int d_ T.kind,.int d_ T.num,.string T.name,a_ A6 T.args.length c6] rfl rfl (bF _ _ _) (yE _ _ _ _ _ _) O_ (by simp;omega) ?_;intro v8 w8 cd fr e6;obtain⟨A8,c8,rfl⟩:=ownsRow_form cd;obtain⟨k5,k6,k7⟩:=k4.o _ _ cd fr e6;obtain⟨z0,z1,z2,z3⟩:=aX k5.o.ty;obtain⟨f0,f1,f2,f3⟩:=aC k5.o.ty);go_roundw
   case rel=>
    first|exact⟨m+1,q7,A7,c7,l7,bB,ak,ts++[T],us++[cn T.kind T.num T.name A6 T.args.length c6],A8,c8,by omega,by go_num,k6,k7,by rw[p_,ev];rfl,by omega,ks⟩|skip
    try(repeat with_reducible apply Exists.intro)
    try refine⟨?_,rfl⟩
    try exact⟨m+1,q7,A7,c7,l7,bB,ak,ts++[T],us++[cn T.kind T.num T.name A6 T.args.length c6],A8,c8,by omega,by go_num,k6,k7,by rw[p_,ev];rfl,by omega,ks⟩
   simp[A_];omega
  have hex:(m<n/\ad=v_)\/¬m<n:=by
   by_cases h:m<n
   ·left
    refine⟨h,?_⟩;cases ad with
    |true=>rfl
    |false=>exact absurd ⟨h,rfl⟩ hD
   exact .inr h
  subst ev;obtain⟨A',c',e2,cB⟩:=HR.o.ty (k:Int) 0 s O_;injection e2 with e3 _ e4;subst e3 e4;obtain⟨WW,X⟩:=N_ (wr);have HT:=cx;have lk:x_ (aG (λg=>w.heap.size+4<=g/\g<WW.heap.size) WW (cn (k:Int) 0 s bb ts.length bd) (.mk (k:Int) 0 s ts)):=Z_ (by rw[X];exact cB.sub λg hg=>⟨by omega,hg.2⟩);rw[<-X]at HT;have g7:x_ (ad=v_->bad=v_\/Y=b_):=Z_ λe=>by
   right;cases cv:bo with
   |true=>exact hv.o.2 cv
   |false=>
    rcases hz.o.2 e with h|h
    ·rw[cv]at h;cases h
    exact(hv.o.1 cv).2 h
  have g8:x_ (ad=o_->∃q':Nat,bad=o_/\Y=c_ (.mk (k:Int) 0 s ts,q',l2)/\bp=300 - (q':Int)/\q<=q'/\q'<=300):=Z_ λe=>by
   obtain⟨h1,h2,h3,h4,h5⟩:=hz.o.1 e;have nd:n - ts.length=0:=by
    rcases hex with h|h
    ·rw[e]at h;cases h.2
    omega
   rw[nd,ez]at h5;exact⟨q2,HG.o.1,(hv.o.1 h1).1 _ _ _ h5.symm,h2,by omega,h4⟩
  have lv:ts.length<=255:=by omega
  have l4:l2.length<=l.length:=by omega
  clear cB hD HR;rcases hex with⟨m3,nf⟩|o1
  ·subst nf
   go_upto_region 20 with fail;rw[<-X];clear X y0 y1 y2;have j:=Z_ (HT.o.t G.o (B_.drew));have e7:x_ (aG (λg=>w.heap.size+4<=g/\g<WW.drew.heap.size) WW.drew (cn (k:Int) 0 s bb ts.length bd) (.mk (k:Int) 0 s ts)):=Z_ (lk.o.ae λg hg=>⟨hg,rfl⟩);generalize bk:WW.drew=V at*;obtain⟨r0,r1,r2⟩:=aR j.o.res;obtain⟨t0,t1,t2,t3⟩:=aX j.o.oD;obtain⟨s0,s1,s2⟩:=au j.o.res;obtain⟨v0,v1,v2,v3⟩:=aC j.o.oD;refine KE (S:=λW:j_=>W.heap[w.heap.size]?=V.heap[w.heap.size]?/\W.heap[w.heap.size+1+1+1]?=V.heap[w.heap.size+1+1+1]?) K_ ?_;rw[show({heap:=WW.heap,tape:=WW.tape,drawn:=WW.drawn+1,os:=WW.os,output:=WW.output}:j_)=V from bk];clear bk;refine ki (i:=0) (s:=75) (v:=JI #[a_ A2 l2.length c2,.int d_ bp,u_ v_]) rfl rfl K_ K_ K_ (λ_ _ _ h=>h) (Ke ⟨by rfl,λw' hS=>by obtain⟨hA,hB⟩:=hS;obtain⟨e0,e1,e2⟩:=aR (hA.trans j.o.box);go_simp⟩) ⟨rfl,rfl⟩ ?_;try simp only[JE,J0,J3]
   refine ki (i:=1) (s:=76) (v:=JI #[.int d_ (k:Int),.int d_ 0,.string s,a_ bb ts.length bd]) rfl rfl K_ K_ K_ (λ_ _ _ h=>h) (Ke ⟨by rfl,λw' hS=>by obtain⟨hA,hB⟩:=hS;obtain⟨e0,e1,e2,e3⟩:=aX (hB.trans j.o.ty);go_simp⟩) ⟨rfl,rfl⟩ ?_;try simp only[JE,J0,J3]
   refine K3 (rs:=[2]) K_ (by simp) ?_;intro i hi;simp only[JL,Ky,Lw]at hi;subst hi;obtain⟨Wa,M,I,D⟩:=ko (a_ A2 l2.length c2) (.int d_ bp) (u_ v_) j.o.res;have O:=(D.block _ (ao j.o.oD) (by show¬_=_;omega)).trans j.o.oD;obtain⟨Wb,bf,bg,J⟩:=sx (.int d_ (k:Int)) (.int d_ 0) (.string s) (a_ bb ts.length bd) O;have bm:=(J.block _ (ao I) (by show¬_=_;omega)).trans I;have bn:=bg;have U:Kept (λg=>g=w.heap.size+1\/g=w.heap.size+1+1) V Wb:=(D.mono λg _ h=>.inl h).trans' (J.mono λg _ h=>.inr h);obtain⟨v0,v1,v2,v3⟩:=aC O;obtain⟨t0,t1,t2,t3⟩:=aX O;have bO:x_ (Wa.heap[w.heap.size]?=V.heap[w.heap.size]?/\Wa.heap[w.heap.size+1+1+1]?=V.heap[w.heap.size+1+1+1]?):=Z_ ⟨D.block _ (ao j.o.box) (by show¬_=_;omega),D.block _ (ao j.o.ty) (by show¬_=_;omega)⟩;have bR:x_ (Wb.heap[w.heap.size]?=V.heap[w.heap.size]?/\Wb.heap[w.heap.size+1+1+1]?=V.heap[w.heap.size+1+1+1]?):=Z_ ⟨U.block _ (ao j.o.box) (by show¬(_\/_);omega),U.block _ (ao j.o.ty) (by show¬(_\/_);omega)⟩;have b5:=Z_ M;have bt:=Z_ bf;have b6:=Z_ bm;have cb:=Z_ bn;have HE:x_ (P (k_ (J_ #[JI #[a_ A2 l2.length c2,.int d_ bp,u_ v_],JI #[.int d_ (k:Int),.int d_ 0,.string s,a_ bb ts.length bd]])) Wb):=Z_ (by rw[e8.o];exact TS.fin (ts:=ts) j.o G.o U e7.o lv l4 g8.o g7.o);clear M bf bm bn I bg D J U O;refine fN rfl rfl (λK hK=>?_);go_simp;rw[<-b5.o];refine kk hK bO.o ?_;refine ag 3 λK hK=>?_
   go_simp;rw[<-bt.o];refine kk hK bR.o ?_;refine J6 K_ ?_ _;go_wp2;obtain⟨f0,f1,f2⟩:=aR b6.o;obtain⟨g0,g1,g2,g3⟩:=aX cb.o;refine C_ (v:=J_ #[JI #[a_ A2 l2.length c2,.int d_ bp,u_ v_],JI #[.int d_ (k:Int),.int d_ 0,.string s,a_ bb ts.length bd]]) (by simp[results,Tryz.results131,go_sem,f0,f1,f2,g0,g1,g2,g3]) rfl ?_;exact HE.o
  go_upto_region 20 with fail;rw[<-X];clear X y0 y1 y2;have j:=Z_ (HT.o.t G.o (B_.drew));have e7:x_ (aG (λg=>w.heap.size+4<=g/\g<WW.drew.heap.size) WW.drew (cn (k:Int) 0 s bb ts.length bd) (.mk (k:Int) 0 s ts)):=Z_ (lk.o.ae λg hg=>⟨hg,rfl⟩);generalize bk:WW.drew=V at*;obtain⟨r0,r1,r2⟩:=aR j.o.res;obtain⟨t0,t1,t2,t3⟩:=aX j.o.oD;obtain⟨s0,s1,s2⟩:=au j.o.res;obtain⟨v0,v1,v2,v3⟩:=aC j.o.oD;refine KE (S:=λW:j_=>W.heap[w.heap.size]?=V.heap[w.heap.size]?/\W.heap[w.heap.size+1+1+1]?=V.heap[w.heap.size+1+1+1]?) K_ ?_;rw[show({heap:=WW.heap,tape:=WW.tape,drawn:=WW.drawn+1,os:=WW.os,output:=WW.output}:j_)=V from bk];clear bk;refine ki (i:=0) (s:=75) (v:=JI #[a_ A2 l2.length c2,.int d_ bp,u_ ad]) rfl rfl K_ K_ K_ (λ_ _ _ h=>h) (Ke ⟨by rfl,λw' hS=>by obtain⟨hA,hB⟩:=hS;obtain⟨e0,e1,e2⟩:=aR (hA.trans j.o.box);go_simp⟩) ⟨rfl,rfl⟩ ?_;try simp only[JE,J0,J3]
  refine ki (i:=1) (s:=76) (v:=JI #[.int d_ (k:Int),.int d_ 0,.string s,a_ bb ts.length bd]) rfl rfl K_ K_ K_ (λ_ _ _ h=>h) (Ke ⟨by rfl,λw' hS=>by obtain⟨hA,hB⟩:=hS;obtain⟨e0,e1,e2,e3⟩:=aX (hB.trans j.o.ty);go_simp⟩) ⟨rfl,rfl⟩ ?_;try simp only[JE,J0,J3]
  refine K3 (rs:=[2]) K_ (by simp) ?_;intro i hi;simp only[JL,Ky,Lw]at hi;subst hi;obtain⟨Wa,M,I,D⟩:=ko (a_ A2 l2.length c2) (.int d_ bp) (u_ ad) j.o.res;have O:=(D.block _ (ao j.o.oD) (by show¬_=_;omega)).trans j.o.oD;obtain⟨Wb,bf,bg,J⟩:=sx (.int d_ (k:Int)) (.int d_ 0) (.string s) (a_ bb ts.length bd) O;have bm:=(J.block _ (ao I) (by show¬_=_;omega)).trans I;have bn:=bg;have U:Kept (λg=>g=w.heap.size+1\/g=w.heap.size+1+1) V Wb:=(D.mono λg _ h=>.inl h).trans' (J.mono λg _ h=>.inr h);obtain⟨v0,v1,v2,v3⟩:=aC O;obtain⟨t0,t1,t2,t3⟩:=aX O;have bO:x_ (Wa.heap[w.heap.size]?=V.heap[w.heap.size]?/\Wa.heap[w.heap.size+1+1+1]?=V.heap[w.heap.size+1+1+1]?):=Z_ ⟨D.block _ (ao j.o.box) (by show¬_=_;omega),D.block _ (ao j.o.ty) (by show¬_=_;omega)⟩;have bR:x_ (Wb.heap[w.heap.size]?=V.heap[w.heap.size]?/\Wb.heap[w.heap.size+1+1+1]?=V.heap[w.heap.size+1+1+1]?):=Z_ ⟨U.block _ (ao j.o.box) (by show¬(_\/_);omega),U.block _ (ao j.o.ty) (by show¬(_\/_);omega)⟩;have b5:=Z_ M;have bt:=Z_ bf;have b6:=Z_ bm;have cb:=Z_ bn;have HE:x_ (P (k_ (J_ #[JI #[a_ A2 l2.length c2,.int d_ bp,u_ ad],JI #[.int d_ (k:Int),.int d_ 0,.string s,a_ bb ts.length bd]])) Wb):=Z_ (by rw[e8.o];exact TS.fin (ts:=ts) j.o G.o U e7.o lv l4 g8.o g7.o);clear M bf bm bn I bg D J U O;refine fN rfl rfl (λK hK=>?_);go_simp;rw[<-b5.o];refine kk hK bO.o ?_;refine ag 3 λK hK=>?_
  go_simp;rw[<-bt.o];refine kk hK bR.o ?_;refine J6 K_ ?_ _;go_wp2;obtain⟨f0,f1,f2⟩:=aR b6.o;obtain⟨g0,g1,g2,g3⟩:=aX cb.o;refine C_ (v:=J_ #[JI #[a_ A2 l2.length c2,.int d_ bp,u_ ad],JI #[.int d_ (k:Int),.int d_ 0,.string s,a_ bb ts.length bd]]) (by simp[results,Tryz.results131,go_sem,f0,f1,f2,g0,g1,g2,g3]) rfl ?_;exact HE.o
end Go.Proofs.YtaalbcfpacpgfaaGreat
namespace Go.Typ
open Go.RowKit Go.Lib Go.Vfs Go.Par
theorem E0{g:Nat->List UInt8->Option (Ty×Nat×List UInt8)}(I:∀q l T j l',g q l=c_ (T,j,l')->q+T.parts=j/\j<=300/\pY 255 T):
  ∀(n:Nat) (xs:List Ty) (q:Nat) (l:List UInt8) (ts:List Ty) (j:Nat) (l':List UInt8),ez g n xs q l=c_ (ts,j,l')->q<=300->∃us,ts=xs++us/\q+aT us=j/\j<=300/\∀t∈us,pY 255 t:=by
 intro n
 induction n with
 |zero=>intro xs q l ts j l' h J;rw[ez]at h;injection h with h;injection h with h1 h2;injection h2 with h2 G;exact⟨[],by simp[h1],by rw[aT];omega,by omega,λt D=>by simp at D⟩
 |succ n K=>
  intro xs q l ts j l' h J;rw[ez]at h;cases hx:g q l with
  |none=>rw[hx]at h;cases h
  |some x=>
   obtain⟨T,V,l1⟩:=x;rw[hx]at h;obtain⟨h1,h2,G⟩:=I _ _ _ _ _ hx;obtain⟨us,M,X,O,U⟩:=K _ _ _ _ _ _ h h2;refine⟨T::us,by rw[M];simp,by rw[aT];omega,O,λt D=>?_⟩;rcases JL.1 D with rfl|D
   ·exact G
   exact U t D
theorem vr{g:Nat->List UInt8->Option (Ty×Nat×List UInt8)}(D:∀q l T j l',g q l=c_ (T,j,l')->q+T.parts=j/\j<=300/\pY 255 T){k:Int}{s:ByteArray}{q:Nat}{l:List UInt8}{T:Ty}{j:Nat}{l':List UInt8}
  (h:dV g k s (q+1) l=c_ (T,j,l')) (hs:s.size<=255) (G:q+1<=300):q+T.parts=j/\j<=300/\pY 255 T:=by
 cases l with
 |nil=>cases h
 |cons c l=>
  rw[dV]at h;cases hx:ez g c.toNat [] (q+1) l with
  |none=>rw[hx]at h;cases h
  |some x=>
   obtain⟨ts,I,l1⟩:=x;rw[hx]at h;simp only at h;injection h with h;injection h with h1 h2;injection h2 with h2 M;obtain⟨us,t,O,J,K⟩:=E0 D _ _ _ _ _ _ _ hx G;rw[Kl]at t;subst t;rw[<-h1,<-h2];exact⟨by show q+(1+aT ts)=I;omega,J,pY.mk hs K⟩
theorem Fu(f:Nat):∀(q:Nat) (l:List UInt8) (T:Ty) (j:Nat) (l':List UInt8),ie f q l=c_ (T,j,l')->q+T.parts=j/\j<=300/\pY 255 T:=by
 induction f with
 |zero=>intro q l T j l' h;cases h
 |succ f D=>
  intro q l T j l' h;rw[ie]at h;split at h
  ·cases h
  rename_i I
  cases l with
  |nil=>cases h
  |cons c l=>
   rw[sR]at h;unfold oY at h;split at h
   ·split at h
    ·injection h with h;injection h with h1 h2;injection h2 with h2 J
     rw[<-h1,<-h2];exact⟨rfl,by omega,pY.mk (by decide) λt G=>by simp at G⟩
    cases h
   split at h
   ·cases hn:nQ l with
    |none=>rw[hn]at h;cases h
    |some x=>
     obtain⟨s,l1⟩:=x;rw[hn]at h;exact vr D h (yC hn).2 O_
   exact vr D h (by decide) O_
end Go.Typ
namespace Go.Proofs.YtaalbcfpacpgfaaGreat
open Go.RowKit Go.Lib Go.Vfs Go.Par Go.Typ Go.Shelf
theorem az.FL{α:Type}{e k:Nat}{R:(Nat->Prop)->j_->m_->α->Prop}{L B p:Nat}{w w':j_}{xs:List α}{v:m_}{us:List m_}(D:∀{S S':Nat->Prop} {w w':j_} {v:m_} {x:α},R S w v x->(∀b,S b->S' b/\w'.heap[b]?=w.heap[b]?)->R S' w' v x)
  (h:az e k R L B w xs v us) (hp:p<L) (G:v.ownBlock≠c_ p) (j:Kept (·=p) w w'):az e k R L B w' xs v us:=
 ⟨h.len,aO h.own λg e=>j.block g (h.own.lt g e).2 (λI=>G (by rw[e,I])),h.size,λi hi=>D (h.each i hi) λb t=>⟨⟨t.1,by have:=j.size;omega,t.2.2⟩,j.block b t.2.1 (by show¬b=p;omega)⟩⟩
structure RD(w wr:j_)(A:Option Kb)(c:Nat)(l:List UInt8)(lf:Int)(bad:Bool)(nm:ByteArray)(k num:Int)(s:ByteArray)(av:m_)(W:j_):Prop where
 box:W.heap[w.heap.size+1]?=c_ (f_ #[a_ A l.length c,e_ d_ lf,u_ bad] 192 (0,0))
 one:W.heap[wr.heap.size]?=c_ (f_ #[g_ nm,e_ d_ k,e_ d_ num,g_ s,av] 63 (0,0))
 dH:bw W w.heap.size (a_ A l.length c) (l_ l)
 kept:Kept (·=w.heap.size+1) wr W
 lt:w.heap.size+1<wr.heap.size
section
variable{w wr:j_}{A A':Option Kb}{c c':Nat}{l l':List UInt8}{lf lf':Int}{bad bad':Bool}{nm:ByteArray}{k num:Int}{s:ByteArray}{av:m_}{W W':j_}
theorem RD.vc(h:RD w wr A c l lf bad nm k num s av W):wr.heap.size<W.heap.size:=ao h.one
theorem RD.t(h:RD w wr A c l lf bad nm k num s av W)(j:n_ W W W'):RD w wr A c l lf bad nm k num s av W':=
 ⟨(j.block _ (ao h.box)).trans h.box,(j.block _ (ao h.one)).trans h.one,h.dH.below (j.mono (by have:=h.lt;have:=h.vc;omega)),h.kept.trans' (Kept.ar j),h.lt⟩
theorem RD.put(h:RD w wr A c l lf bad nm k num s av W)(j:Kept (·=w.heap.size+1) W W')
  (t:W'.heap[w.heap.size+1]?=c_ (f_ #[a_ A' l'.length c',e_ d_ lf',u_ bad'] 192 (0,0))) (hs:bw W w (a_ A' l'.length c') (l_ l')):RD w wr A' c' l' lf' bad' nm k num s av W':=by
 have h1:=h.lt;have h2:=h.vc;exact⟨t,(j.block _ (ao h.one) (by show¬_=_;omega)).trans h.one,hs.ae λb o t=>D_ (w:=W) (a:=⟨b,o,b_⟩) (j.block b O_ (by show¬_=_;omega)),h.kept.trans' j,h1⟩
theorem RD.DV{t:ByteArray}{k' num':Int}{s':ByteArray}{av':m_}(h:RD w wr A c l lf bad nm k num s av W)(j:Kept (·=wr.heap.size) W W')
  (D:W'.heap[wr.heap.size]?=c_ (f_ #[g_ t,e_ d_ k',e_ d_ num',g_ s',av'] 63 (0,0))):RD w wr A c l lf bad t k' num' s' av' W':=by
 have h1:=h.lt;have h2:=h.vc;have I:=j.size;refine⟨(j.block _ (ao h.box) (by show¬_=_;omega)).trans h.box,D,h.dH.ae λb o D=>D_ (w:=W) (a:=⟨b,o,b_⟩) (j.block b O_ (by show¬_=_;omega)),?_,h1⟩;exact⟨j.os.trans h.kept.os,j.tape.trans h.kept.tape,j.output.trans h.kept.output,by have:=h.kept.size;omega,λg G hp=>(j.block g (by have:=h.kept.size;omega) (by show¬_=_;omega)).trans (h.kept.block g G hp)⟩
end
variable{W:j_}{r:Nat}{u0 u1 u2 u3 u4:m_}
theorem I1(v0:m_){t:Ki}(hr:W.heap[r]?=c_ (f_ #[u0,u1,u2,u3,u4] t (0,0))):
  ∃j,j=W.setCell ⟨r,0,b_⟩ v0/\j.heap[r]?=c_ (f_ #[v0,u1,u2,u3,u4] t (0,0))/\Kept (·=r) W j:=
 ⟨_,rfl,by simpa using ai hr 0 v0,Kept.setCell (F:=(·=r)) (p:=⟨r,0,b_⟩) (Kept.refl _ _) (.inl rfl) v0⟩
theorem Ht(v1 v2 v3 v4:m_){t:Ki}(hr:W.heap[r]?=c_ (f_ #[u0,u1,u2,u3,u4] t (0,0))):
  ∃j,j=((((W.setCell ⟨r,1,b_⟩ v1).setCell ⟨r,2,b_⟩ v2).setCell ⟨r,3,b_⟩ v3).setCell ⟨r,4,b_⟩ v4)/\j.heap[r]?=c_ (f_ #[u0,v1,v2,v3,v4] t (0,0))/\Kept (·=r) W j:=
 ⟨_,rfl,by simpa using ai (ai (ai (ai hr 1 v1) 2 v2) 3 v3) 4 v4,Kept.setCell (F:=(·=r)) (p:=⟨r,4,b_⟩) (Kept.setCell (F:=(·=r)) (p:=⟨r,3,b_⟩) (Kept.setCell (F:=(·=r)) (p:=⟨r,2,b_⟩) (Kept.setCell (F:=(·=r)) (p:=⟨r,1,b_⟩) (Kept.refl _ _) (.inl rfl) v1) (.inl rfl) v2) (.inl rfl) v3) (.inl rfl) v4⟩
def F0(L:List UInt8)(w:j_)(e:Ending)(w':j_):Prop:=
 n_ w.heap.size w w'/\∃v',e=k_ (J_ #[v',e_ d_ (if(fE L).isSome then 0 else 140)])/\(∀xs,fE L=c_ xs->bA (λg=>w.heap.size<=g/\g<w'.heap.size) w' v' xs)/\(fE L=b_->v'=a_ b_ 0 0)
theorem oq{L:List UInt8}{w:j_}(j:n_ w w W)(h:fE L=b_):F0 L w (k_ (J_ #[a_ b_ 0 0,e_ d_ 140])) W:=
 ⟨j,a_ b_ 0 0,by rw[h];rfl,(λxs e=>by rw[h]at e;cases e),λ_=>rfl⟩
theorem wR(L:List UInt8)(hL:L.length<=1000000)(v:m_)(w:j_)(cg:bw w w v (l_ L)):Calls h_ 102 #[v] w (F0 L w):=by
 obtain⟨P,hP⟩:=N_ (F0 L w);have ch:=Z_ hP;rw[<-hP];clear hP;obtain⟨A,c,rfl,hc,hm,-⟩:=cg.bq;obtain⟨W2,bn⟩:=N_ ((w.alloc (f_ #[] 63)).alloc (f_ #[a_ A L.length c,.int d_ 0,u_ o_] 192));have ck:n_ w w W2:=by rw[bn];exact(B_.alloc L_ _).alloc (by simp) _
 have bb:W2.heap[w.heap.size+1]?=c_ (f_ #[a_ A L.length c,.int d_ 0,u_ o_] 192 (0,0)):=by
  rw[bn];simpa using heap_alloc_new (w.alloc (f_ #[] 63)) (f_ #[a_ A L.length c,.int d_ 0,u_ o_] 192)
 have gy:x_ (az 63 5 fA (w+2) w W2 [] (a_ (c_ ⟨w,0,b_⟩) 0 0) []):=Z_ (by
  rw[bn];exact az.below (R:=fA) fA.ae (az.made w L_) (B_.alloc (by simp) _))
 have hF:=Z_ cg;have ev:=Z_ ck;have cF:=Z_ bb;have h8:=ao bb;have gz:=Z_ (kW L 2 O_ w A c 0 o_ W2 (cg.below ck) ck.size O_);obtain⟨y0,y1,y2⟩:=aR bb;rw[bn]at y0 y1 y2;clear cg ck bb hc hm;go_enter Tryz.func102,Tryz.ntmps102;go_wp2_with fail;rw[<-bn];clear bn y0 y1 y2;refine gz.o.mono ?_;rintro e w3 ⟨A3,c3,l3,D,n,rfl,g0,J,K⟩;have bd:=(J.block _ (ao cF.o)).trans cF.o;obtain⟨W4,g1,M,G⟩:=ko (a_ A3 l3.length c3) (.int d_ 0) (u_ D) bd;have j3:=J.size;have g2:bw W4 w (a_ A3 l3.length c3) (l_ l3):=g0.ae λb o hb=>D_ (w:=w3) (a:=⟨b,o,b_⟩) (G.block b O_ (by show¬_=_;omega))
 have hG:x_ (n_ w w W4):=Z_ ((ev.o.trans (J.mono ev.o.size)).trans (G.below (by have:=ev.o.size;omega) (λg Y=>by omega)));have hH:x_ (az 63 5 fA (w+2) w W4 [] (a_ (c_ ⟨w,0,b_⟩) 0 0) []):=Z_ (az.FL (R:=fA) fA.ae (az.below (R:=fA) fA.ae gy.o J) (p:=w.heap.size+1) O_ (by simp[KT]) G);have hJ:=Z_ g2;have g3:=Z_ M;obtain⟨hK,-,-,-⟩:=vn.len O_ K;have hn:n<65536:=by
  rcases K with⟨h1,h2,h3,h4⟩|⟨h1,h2,h3,h4⟩
  ·have:=iQ (L.take 2)
   rw[JN,K2 h1]at this;omega
  omega
 have eA:x_ ((D=o_->(∀xs l',mo n [] l3=c_ (xs,l')->fE L=if aM xs=v_/\et xs=L then c_ xs else b_)/\(mo n [] l3=b_->fE L=b_))/\(D=v_->fE L=b_)):=Z_ (by
  rw[<-EO];rcases K with⟨h1,rfl,rfl,rfl⟩|⟨h1,h2,h3,rfl⟩
  ·refine⟨λ_=>⟨λxs l' h=>?_,λh=>?_⟩,λe=>by cases e⟩
   ·rw[vG,G_ h1,h]
   rw[vG,G_ h1,h]
  exact⟨(λe=>by cases e),λ_=>by rw[vG,I_ O_]⟩)
 obtain⟨a0,a1,a2⟩:=aR bd;obtain⟨q0,q1,q2⟩:=au bd;have h9:=ao M;have g4:l3.length<=1000000:=by omega
 clear K g0 J bd M G g2 gz gy hK;go_upto_region 5 with fail;rw[<-g1];clear g1 a0 a1 a2 q0 q1 q2
 go_loopw [4,7] (λsv iv W=>∃(m:Nat) (A2:Option Kb) (c2:Nat) (l2:List UInt8) (g5:Int) (I:Bool) (xs:List Ex) (us:List m_),m<=n/\iv=.int d_ m/\W.heap[w.heap.size+1]?=c_ (f_ #[a_ A2 l2.length c2,.int d_ g5,u_ I] 192 (0,0))/\x_ (bw W w (a_ A2 l2.length c2) (l_ l2))/\x_ (n_ w w W)/\x_ (az 63 5 fA (w+2) w W xs sv us)/\x_ (sv.ownBlock≠c_ (w.heap.size+1))/\xs.length=m/\l2.length<=1000000/\
  x_ ((I=o_->D=o_/\mo (n - m) xs l2=mo n [] l3/\∀x∈xs,qj x)/\(I=v_->D=v_\/mo n [] l3=b_))) (λ_ iv _=>n - (A_ iv).toNat)
 case atStart=>exact⟨0,A3,c3,l3,0,D,[],[],by omega,rfl,g3.o,hJ,hG,hH,Z_ (by simp[KT]),rfl,g4,Z_ ⟨λe=>⟨e,rfl,λx hx=>by simp at hx⟩,λe=>.inl e⟩⟩
 obtain⟨m,A2,c2,l2,g5,I,xs,us,j4,rfl,cl,hM,cm,bt,cp,cr,j6,eC⟩:=hrel;obtain⟨y0,y1,y2⟩:=aR cl;have g6:=ao cl;have g7:=cm.o.size;by_cases ct:m<n/\I=o_
 ·obtain⟨hN,rfl⟩:=ct
  obtain⟨V,j,X⟩:=eC.o.1 rfl;have g8:=Z_ j;have c7:=Z_ X;have ha:=Z_ V;obtain⟨W5,bx⟩:=N_ ((wr.setCell ⟨w+1,1,b_⟩ (.int d_ 300)).alloc (f_ #[.string ⟨#[]⟩,.int d_ 0,.int d_ 0,.string ⟨#[]⟩,a_ b_ 0 0] 63));have bB:(wr.setCell ⟨w+1,1,b_⟩ (.int d_ 300)).heap.size=wr.heap.size:=by simp[Kd]
  have e0:Kept (·=w.heap.size+1) wr W5:=by rw[bx];exact(Kept.setCell (F:=(·=w.heap.size+1)) (p:=⟨w+1,1,b_⟩) (Kept.refl _ _) (.inl rfl) _).alloc _
  have cu:RD w wr A2 c2 l2 300 o_ ⟨#[]⟩ 0 0 ⟨#[]⟩ (a_ b_ 0 0) W5:=by
   refine⟨?_,?_,hM.o.ae λb o hb=>D_ (w:=wr) (a:=⟨b,o,b_⟩) (e0.block b O_ (by show¬_=_;omega)),e0,g6⟩
   ·rw[bx,z_ _ _ _ (by rw[bB];omega)];simpa using ai cl 1 (.int d_ 300)
   have:=r_ (wr.setCell ⟨w+1,1,b_⟩ (.int d_ 300)) (f_ #[.string ⟨#[]⟩,.int d_ 0,.int d_ 0,.string ⟨#[]⟩,a_ b_ 0 0] 63);rw[bB]at this;rw[bx];exact this
  have e1:=Z_ cu;have hd:=Z_ (tA l2 w A2 c2 300 o_ W5 cu.dH (by have:=cu.vc;omega) O_);obtain⟨q0,q1,q2⟩:=au cl;clear j X V e0 cu bB;go_upto_region 9 with fail;rw[<-bx];clear bx q0 q1 q2 y0 y1 y2;obtain⟨y0,y1,y2⟩:=aR e1.o.box;go_wp2_with fail;refine hd.o.mono ?_;rintro e w6 ⟨A6,c6,l6,c8,s6,rfl,hf,cv,kf,ih,df,dv,-⟩;have Z:=e1.o.t cv;obtain⟨W7,hh,M,G⟩:=ko (a_ A6 l6.length c6) (.int d_ 300) (u_ c8) Z.box;have e2:=Z.put G M hf;obtain⟨W8,hk,bN,ad⟩:=I1 (.string s6) e2.one;have cx:=e2.DV ad bN;have cB:=Z_ cx;have hl:=Z_ (Ei w 301 l6 0 c8 A6 c6 300 W8 cx.dH (by have:=cx.vc;omega) O_ (by decide) O_ O_);obtain⟨a0,a1,a2⟩:=aR Z.box;obtain⟨q0,q1,q2⟩:=au Z.box;obtain⟨b0,b1,b2,b3,b4⟩:=nV Z.one;obtain⟨f0,f1,f2,f3,f4⟩:=oM Z.one;have bO:=Z_ (And.intro df dv);clear y0 y1 y2 hf cv Z M G e2 bN ad cx hd e1 df dv;go_upto_region 10 with fail;rw[<-hh,<-hk];clear hh hk a0 a1 a2 q0 q1 q2 b0 b1 b2 b3 b4 f0 f1 f2 f3 f4;obtain⟨y0,y1,y2⟩:=aR cB.o.box;go_wp2_with fail;refine hl.o.mono ?_;rintro e w9 ⟨T,A9,c9,e3,e4,bo,eb,O,rfl,e5,hO,ec,e6,j0,ak,bR⟩;unfold cn at e5⊢;have ba:=cB.o.t e6;obtain⟨kh,ee,M,G⟩:=ko (a_ e3 bo.length e4) (.int d_ eb) (u_ O) ba.box;have b5:=ba.put G M ec;obtain⟨b6,eg,bN,ad⟩:=Ht (.int d_ T.kind) (.int d_ T.num) (.string T.name) (a_ A9 T.args.length c9) b5.one;have bf:=b5.DV ad bN;have km:=cB.o.vc;have kn:=e6.size;have j1:=G.size;have j2:=ad.size;have hex:fA (λg=>W8.heap.size<=g/\g<w9.heap.size) b6 (zW ⟨s6,T⟩ A9 c9) ⟨s6,T⟩:=⟨A9,c9,rfl,by show s6.size<=_;omega,e5.ae λg Y=>⟨Y,(ad.block g O_ (by show¬_=_;omega)).trans (G.block g Y.2 (by show¬_=_;omega))⟩⟩;have cb:=az.FL (R:=fA) fA.ae bt.o (p:=w.heap.size+1) O_ cp.o bf.kept;have en:=Z_ cb;have e7:=Z_ hex;have bg:=Z_ bf;have hQ:x_ (n_ w w b6):=Z_ (cm.o.trans (bf.kept.below g7 (λg Y=>by omega)));obtain⟨hR,e8⟩:=N_ (us.flatMap cX);have bj:=cb.own;rw[<-e8,cr]at bj;have hT:=Z_ e8;have hU:x_ ((O=o_->D=o_/\mo (n - (m+1)) (xs++[⟨s6,T⟩]) bo=mo n [] l3/\∀x∈xs++[(⟨s6,T⟩:Ex)],qj x)/\(O=v_->D=v_\/mo n [] l3=b_)):=Z_ (by
   have j:=g8.o;rw[show n - m=(n - (m+1))+1 by omega,mo]at j;cases hn:nQ l2 with
   |none=>
    rw[hn]at j;have cv:=bO.o.2 hn;refine⟨λe=>?_,λ_=>.inr j.symm⟩;obtain⟨q',h1,-⟩:=ak e;rw[cv]at h1;cases h1
   |some y=>
    obtain⟨s0,l0⟩:=y;obtain⟨h1,h2,h3⟩:=bO.o.1 s0 l0 hn;rw[hn]at j;simp only at j;subst h1 h2 h3;refine⟨λe=>?_,λe=>?_⟩
    ·obtain⟨q',-,h4,-,-,h5⟩:=ak e
     rw[h4]at j;obtain⟨h6,-,h7⟩:=Fu _ _ _ _ _ _ h4;refine⟨ha.o,j,λx hx=>?_⟩;rcases KI.1 hx with hx|hx
     ·exact c7.o x hx
     rw[KV.1 hx];exact⟨by show T.parts<=_;omega,λy hy=>by have:=h7 y hy;omega,by show s6.size<=_;omega⟩
    right;have h4:=(bR e).resolve_left (by decide);rw[h4]at j;exact j.symm)
  obtain⟨a0,a1,a2⟩:=aR ba.box;obtain⟨q0,q1,q2⟩:=au ba.box;obtain⟨b0,b1,b2,b3,b4⟩:=nV ba.one;obtain⟨f0,f1,f2,f3,f4⟩:=oM ba.one;have e9:bo.length<=1000000:=by omega
  clear y0 y1 y2 e5 ec e6 ba M G b5 bN ad bf hl cB ak bR cb hex e8 bO g8 c7;go_upto_region 11 with fail;rw[<-ee,<-eg];clear ee eg a0 a1 a2 q0 q1 q2 b0 b1 b2 b3 b4 f0 f1 f2 f3 f4;obtain⟨b0,b1,b2,b3,b4⟩:=nV bg.o.one;have ho:w.heap.size<=b6.heap.size:=by omega
  go_wp2_with (at_builtin;refine dc _ rfl _ _ _ rfl w _ 5 IG _ m hR rfl (Kf bj _) ⟨b6,0,b_⟩ 1 1 [.string s6,.int d_ T.kind,.int d_ T.num,.string T.name,a_ A9 T.args.length c9] rfl rfl (bF _ _ _) (E9 _ _ _ _ _ _ _) O_ (by simp;omega) ?_;intro hq fb bk bm U);have fi:=Gr.app bm U;have fr:=(fi.block (ao bg.o.box) (λe=>cp.o e)).trans bg.o.box;have fz:x_ (bw fb w (a_ e3 bo.length e4) (l_ bo)):=Z_ (bg.o.dH.ae λb o hb=>D_ (w:=b6) (a:=⟨b,o,b_⟩) (fi.block (g:=b) O_ (λe=>by have:=(en.o.lt b e).1;omega)));have ht:x_ (n_ w w fb):=Z_ (bK hQ.o ho _ bm (λg e=>(bj.lt g e).1));have hv:x_ (az 63 5 fA (w+2) w fb (xs++[⟨s6,T⟩]) hq (us++[zW ⟨s6,T⟩ A9 c9])):=Z_ (az.next (R:=fA) fA.ae en.o e7.o (λg Y=>⟨by omega,by omega,λe=>by have:=(bt.o.lt g e).2;omega⟩) rfl _ (by rw[cr,<-hT.o];exact bk) bm U);have hz:x_ (hq.ownBlock≠c_ (w.heap.size+1)):=Z_ (by
   rcases U with e|e
   ·rw[e];exact cp.o
   rw[e];simp;omega)
  clear fi bk bm U bj b0 b1 b2 b3 b4;go_wp2;go_roundw
  case rel=>exact⟨m+1,e3,e4,bo,eb,O,xs++[⟨s6,T⟩],us++[zW ⟨s6,T⟩ A9 c9],by omega,by go_num,fr,fz,ht,hv,hz,by rw[p_,cr];rfl,e9,hU⟩
  simp[A_];omega
 cases I with
 |true=>
  have HN:x_ (fE L=b_):=Z_ (by
   cases J:D with
   |true=>exact eA.o.2 J
   |false=>
    rcases eC.o.2 rfl with h|h
    ·rw[J]at h;cases h
    exact(eA.o.1 J).2 h)
  have HE:x_ (P (k_ (J_ #[a_ b_ 0 0,.int d_ 140])) wr):=Z_ (by rw[ch.o];exact oq cm.o HN.o);clear ct;by_cases hN:m<n
  ·go_wp2
   exact HE.o
  go_wp2;exact HE.o
 |false=>
  have kr:¬m<n:=λh=>ct ⟨h,rfl⟩
  subst cr;obtain⟨V,j,X⟩:=eC.o.1 rfl;rw[show n - xs.length=0 by omega,mo]at j;have gi:=Z_ ((eA.o.1 V).1 _ _ j.symm);obtain⟨A5,c5,hA,hV,hW⟩:=bt.o.form;have eo:x_ (bA (λg=>w.heap.size<=g/\g<wr.heap.size) wr (a_ A5 xs.length c5) xs):=Z_ (by rw[<-hA];exact bt.o.aI.sub λg Y=>⟨by rcases Y.1 with h|h<;>omega,Y.2⟩);have e7:x_ (bA (·<wr.heap.size) wr (a_ A5 xs.length c5) xs):=Z_ (eo.o.sub λg Y=>Y.2);subst hA;have gn:=Z_ (lT xs X _ wr e7.o);clear ct j X hV hW V bt cp;go_wp2_with fail;refine gn.o.mono ?_;rintro e w5 ⟨v5,bp,cc,gp,hB⟩;have HB5:x_ (n_ w w w5):=Z_ (cm.o.trans (cc.mono g7));have hD:x_ (bA (λg=>w.heap.size<=g/\g<w5.heap.size) w5 (a_ A5 xs.length c5) xs):=Z_ (eo.o.ae λg Y=>⟨⟨Y.1,by have:=cc.size;omega⟩,cc.block g Y.2⟩);cases hr:aM xs with
  |false=>
   have HE:x_ (P (k_ (J_ #[a_ b_ 0 0,.int d_ 140])) w5):=Z_ (by rw[ch.o];exact oq HB5.o (by rw[gi.o,I_ (by rw[hr];exact λh=>by cases h.1)]));rw[hr]at bp;simp only[Bool.false_eq_true,if_false]at bp;subst bp;clear gp hB cc hr gn;go_wp2;exact HE.o
  |true=>
   have cE:x_ (∀W,n_ w5 w5 W->Calls h_ 40 #[v5,a_ A L.length c] W λe w'=>e=k_ (u_ (decide (et xs=L)))/\n_ W W w'):=Z_ λW h=>by
    refine(rP _ _ (et xs) L w5 W ((gp hr).dH.below h) (((hF.o.below HB5.o).more HB5.o.size).below h)).mono ?_;rintro e w' ⟨rfl,k,rfl⟩;exact⟨rfl,eM B_ _⟩
   rw[hr]at bp;simp only[Ml]at bp;subst bp;have hX:x_ (∀W,n_ w5 w5 W->et xs=L->P (k_ (J_ #[a_ A5 xs.length c5,.int d_ 0])) W):=Z_ λW h he=>by
    rw[ch.o];have hx:fE L=c_ xs:=by rw[gi.o,G_ ⟨hr,he⟩]
    refine⟨HB5.o.trans (h.mono HB5.o.size),_,by rw[hx];rfl,λys e=>?_,λe=>by rw[hx]at e;cases e⟩;rw[hx]at e;injection e with e;rw[<-e];exact hD.o.ae λg Y=>⟨⟨Y.1,by have:=h.size;omega⟩,h.block g Y.2⟩
   have hY:x_ (∀W,n_ w5 w5 W->¬et xs=L->P (k_ (J_ #[a_ b_ 0 0,.int d_ 140])) W):=Z_ λW h he=>by
    rw[ch.o];exact oq (HB5.o.trans (h.mono HB5.o.size)) (by rw[gi.o,I_ λh=>he h.2])
   have hE:=Z_ (JG w5 w5);clear gp hB cc hr gn;by_cases he:et xs=L
   ·have cd:decide (et xs=L)=true:=JR he
    rw[cd]at cE;have gv:=Z_ he;clear he cd;go_wp2_with fail;refine(cE.o _ hE.o).mono ?_;rintro e w7 ⟨rfl,cf⟩;have HF:=Z_ (hX.o w7 cf gv.o);clear cf;go_wp2;exact HF.o
   have cd:decide (et xs=L)=false:=JJ he;rw[cd]at cE;have gv:=Z_ he;clear he cd;go_wp2_with fail;refine(cE.o _ hE.o).mono ?_;rintro e w7 ⟨rfl,cf⟩;have HF:=Z_ (hY.o w7 cf gv.o);clear cf;go_wp2;exact HF.o
