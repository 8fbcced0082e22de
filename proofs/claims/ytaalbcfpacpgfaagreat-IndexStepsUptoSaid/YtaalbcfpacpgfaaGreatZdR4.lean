import Derived.BigRegion
import Derived.Deep.RegionHeld
import Derived.Test.YtaalbcfpacpgfaaGreatZdI20a
import Derived.Test.YtaalbcfpacpgfaaGreatZdI8
import Derived.Test.YtaalbcfpacpgfaaGreatZdM5
import Derived.Test.YtaalbcfpacpgfaaGreatZdYZ
import Derived.Test.YtaalbcfpacpgfaaGreatZdK7
set_option linter.all false
set_option maxHeartbeats 16000000
set_option maxRecDepth 100000
open Bool renaming false->o_,true->v_
open Go renaming Addr->Kb,Calls->H_,Value->m_,World->j_
open Go.Ending renaming returned->k_
open Go.Instr renaming slice->KO
open Go.IntKind renaming i64->d_
open Go.Obj renaming cells->f_
open Go.Op renaming bytesLess->K4
open Go.Proofs.Tryz renaming prog->h_
open Go.RowKit renaming Below->n_,Hid->x_,intOf->A_
open Go.Value renaming agg->JI,bool->u_,int->e_,slice->a_,string->g_,tuple->J_
open Go.World renaming cell?->E_,frozen?->JW
open Option renaming isSome->MN,none->b_,some->c_
namespace Go.Ix
open Go.RowKit Go.Lib Go.Vfs Go.Par Go.Typ
theorem yl{s:List UInt8}{xs:List En}{j:Nat}(h:j<xs.length):an aB s (xs.take (j+1))=if aB xs[j]=s then an aB s (xs.take j)else an aB s (xs.take j)++[xs[j]]:=by
 rw[y_ h];unfold an;rw[List.filter_append];by_cases t:aB xs[j]=s
 ·rw[G_ t];simp[t]
 rw[I_ t];simp[t]
theorem ly{x:En}{s:ByteArray}:aB x=s.data.toList↔x.uri=s:=by
 constructor
 ·intro h
  have h:x.uri.data.toList=s.data.toList:=h;obtain⟨u,_,_⟩:=x;cases u;cases s;simp only at h⊢;rw[Ll.1 h]
 intro h;unfold aB;rw[h]
theorem lS{E y:En}{s:List En×Bool}(h:¬y.uri=E.uri):cZ E s y=if s.2=o_/\K4 E.uri.toList y.uri.toList=v_ then((s.1++[E])++[y],v_)else(s.1++[y],s.2):=by
 unfold cZ;rw[I_ h]
theorem vJ{E:En}{xs:List En}:∀y∈an aB (aB E) xs,¬y.uri=E.uri:=λy j e=>(cq.1 j).2 (by unfold aB;rw[e])
def iF(G:Nat->Prop)(S:Nat->Prop)(w:j_)(v:m_)(x:En):Prop:=bW (λg=>S g/\G g) w v x
theorem iF.ae{G S S':Nat->Prop}{w w':j_}{v:m_}{x:En}(h:iF G S w v x)(t:∀b,S b->S' b/\w'.heap[b]?=w.heap[b]?):iF G S' w' v x:=
 bW.ae h λb j=>⟨⟨(t b j.1).1,j.2⟩,(t b j.1).2⟩
theorem _root_.Go.Typ.az.zV{G:Nat->Prop}{e B:Nat}{w:j_}{xs:List En}{v:m_}{us:List m_}(h:az e 3 (iF G) 0 B w xs v us):aS (λg=>(G g\/B<=g)/\g<w.heap.size) w v xs:=by
 obtain⟨A,c,rfl,hc,hm⟩:=h.form;refine⟨A,c,rfl,hc,hm,λi=>us.getD i (u_ o_),λh0=>?_,λi hi=>bW.ae (h.each i hi) λg I=>⟨⟨.inl I.2,I.1.2.1⟩,rfl⟩⟩;obtain⟨g,J,e,K,t,D⟩:=h.cells h0;injection e with M _ _;refine⟨g,0,M,⟨.inr K,t⟩,λi hi j hj=>?_⟩;rw[D i hi j hj];show _=c_ (Gl (us.getD i (u_ o_)) j);obtain⟨O,J,e,_⟩:=h.each i hi;rw[e];have:j=0\/j=1\/j=2:=by omega
 rcases this with rfl|rfl|rfl<;>rfl
end Go.Ix
namespace Go.Proofs.YtaalbcfpacpgfaaGreat
open Go.RowKit Go.Lib Go.Vfs Go.Par Go.Typ Go.Shelf Go.Ix
theorem kR{G T:Nat->Prop}{B:Nat}{w w3:j_}{xs:List En}{v v':m_}{us:List m_}(h:az 55 3 (iF G) 0 B w xs v us){x:En}{A:Option Kb}{c:Nat}(hx:bW T w (eV x A c) x)(D:∀g,T g->G g/\g<B)(J:B<=w){o:Obj}
  (t:w3.ownsRow B 55 3 v' (xs.length+1) (us.flatMap cX++cX (eV x A c))) (j:(w.alloc o).grownBy w3 v.ownBlock) (I:v'.ownBlock=v.ownBlock\/v'.ownBlock=c_ (w.alloc o).heap.size):
  az 55 3 (iF G) 0 B w3 (xs++[x]) v' (us++[eV x A c]):=
 az.next (R:=iF G) iF.ae h (S:=T) (bW.ae hx λg j=>⟨⟨j,(D g j).1⟩,rfl⟩) (λg j=>⟨Km _,by have:=(D g j).2;omega,λe=>by have:=h.lt g e;have:=(D g j).2;omega⟩) rfl o t j I
theorem xq(s:ByteArray)(hs:s.size<=9223372036854775807)(w:j_):H_ h_ 77 #[g_ s] w λe w'=>e=k_ (u_ (dy s))/\w'=w:=by
 by_cases h1:(1:Int)<=(s.size:Int)
 ·by_cases h2:(s.size:Int)<=64
  ·have hu:dy s=true:=by unfold dy;exact JR ⟨by omega,by omega⟩
   rw[hu];go_enter Tryz.func77,Tryz.ntmps77;go_wp2;go_ret;exact⟨rfl,rfl⟩
  have hu:dy s=false:=by unfold dy;exact JJ O_
  rw[hu];go_enter Tryz.func77,Tryz.ntmps77;go_wp2;go_ret;exact⟨rfl,rfl⟩
 have hu:dy s=false:=by unfold dy;exact JJ O_
 rw[hu];go_enter Tryz.func77,Tryz.ntmps77;go_wp2;go_ret;exact⟨rfl,rfl⟩
theorem iC(xs:List En)(s:ByteArray)(v:m_)(w:j_)(S:Nat->Prop)(hS:∀g,S g->g<w.heap.size)(hX:aS S w v xs)(hl:xs.length<=1000000):
  H_ h_ 71 #[v,g_ s] w λe w'=>∃A c,e=k_ (a_ A (an aB s.data.toList xs).length c)/\aS (fO S w w') w' (a_ A (an aB s.data.toList xs).length c) (an aB s.data.toList xs)/\n_ w w w':=by
 obtain⟨A,c,rfl,hc,hm⟩:=hX.form;have HX:=Z_ hX;have HS:=Z_ hS;obtain⟨W1,I⟩:=N_ (w.alloc (f_ #[] 55));have X:n_ w w W1:=by rw[I];exact B_.alloc L_ _
 have a1:=Z_ X;have a2:x_ (az 55 3 (iF S) 0 w W1 [] (a_ (c_ ⟨w,0,b_⟩) 0 0) []):=Z_ (by rw[I];exact az.made w L_);clear hX hS hc hm X;go_enter Tryz.func71,Tryz.ntmps71;go_wp2;rw[<-I];clear I
 go_loopw [5,6] (λsv jv W'=>∃(j:Nat) (us:List m_),j<=xs.length/\jv=e_ d_ j/\x_ (az 55 3 (iF S) 0 w W' (an aB s.data.toList (xs.take j)) sv us)/\x_ (n_ w w W')) (λ_ jv _=>xs.length - (A_ jv).toNat)
 case atStart=>exact⟨0,[],by omega,rfl,a2,a1⟩
 obtain⟨j,us,hj,rfl,HR,Z⟩:=hrel;have hz:=Z.o.size;by_cases ad:j<xs.length
 ·obtain⟨b,off,A',c',rfl,hb,ak,ht,x0,x1,x2⟩:=(HX.o.ae (S':=S) λg K=>⟨K,Z.o.block g (HS.o g K)⟩).arg ad
  have bn:=HS.o b hb;have D:=yl (s:=s.data.toList) ad;have ba:x_ (bW S wr (eV xs[j] A' c') xs[j]):=Z_ ⟨A',c',rfl,ak,ht⟩;have bb:(an aB s.data.toList (xs.take j)).length<=j:=by have:=KX (λy=>!(aB y==s.data.toList)) (xs.take j);rw[JN]at this;unfold an;omega
  have J:aB xs[j]=s.data.toList↔xs[j].uri=s:=ly;clear ht ak;generalize xs[j]=Y at*;generalize an aB s.data.toList (xs.take j)=acc at*;by_cases hn:Y.uri=s
  ·rw[G_ (J.2 hn)]at D
   have O:=Z_ D;have bd:(Y.uri.toList==s.toList)=true:=(vv _ _).2 hn;clear hn D J;go_wp2;go_roundw
   case rel=>exact⟨j+1,us,by omega,by go_num,Z_ (by rw[O.o];exact HR.o),Z⟩
   simp[A_];omega
  rw[I_ (λh=>hn (J.1 h))]at D;have O:=Z_ D;have bd:(Y.uri.toList==s.toList)=false:=lj hn;have t:=HR.o.own;obtain⟨bf,U⟩:=N_ (us.flatMap cX);obtain⟨m,hm⟩:=N_ (acc.length);rw[<-U,<-hm]at t;rw[<-hm]at bb;have bg:=Z_ U;have HM:=Z_ hm;clear hn D J U hm;go_wp2_with (at_builtin;refine dc _ rfl _ _ _ rfl w _ 3 EP _ m bf rfl (Kf t _) ⟨wr,0,b_⟩ 1 1 [g_ Y.uri,e_ d_ Y.bu,a_ A' Y.aI.length c'] rfl rfl (bF _ _ _) (uB _ _ _ _ _) O_ (by simp;omega) ?_;intro v5 w5 G V M);have av:az 55 3 (iF S) 0 w w5 (acc++[Y]) v5 (us++[eV Y A' c']):=by
   refine kR HR.o ba.o (λg K=>⟨K,HS.o g K⟩) hz ?_ V M;rw[<-HM.o,<-bg.o];exact G
  have bj:=Z_ av;have HB5:x_ (n_ w w w5):=Z_ (bK Z.o hz _ V (λg e=>(t.lt g e).1));clear av G V M t x0 x1 x2;go_wp2;go_roundw
  case rel=>exact⟨j+1,_,by omega,by go_num,Z_ (by rw[O.o];exact bj.o),HB5⟩
  simp[A_];omega
 have bk:j=xs.length:=by omega
 have hr:=HR.o;rw[bk,JO]at hr;have HE:=Z_ hr.zV;obtain⟨Af,cf,bm,-,-⟩:=hr.form;clear hr;subst bm;go_wp2;go_ret;exact⟨Af,cf,rfl,HE.o.ae λg K=>⟨K.1.imp id (λh=>⟨h,K.2⟩),rfl⟩,Z.o⟩
end Go.Proofs.YtaalbcfpacpgfaaGreat
namespace Go.Ix
open Go.RowKit Go.Lib Go.Vfs Go.Par Go.Typ
theorem zj(E:En)(xs:List En):aq aB E (an aB (aB E) xs)=aq aB E xs:=by
 unfold aq;rw[show an aB (aB E) (an aB (aB E) xs)=an aB (aB E) xs by unfold an;rw[List.filter_filter];simp]
end Go.Ix
namespace Go.Proofs.YtaalbcfpacpgfaaGreat
open Go.RowKit Go.Lib Go.Vfs Go.Par Go.Typ Go.Shelf Go.Ix
variable{S:Nat->Prop}{L:List UInt8}{w w':j_}{A:Option Kb}{c:Nat}
theorem po(xs:List En)(E:En)(A':Option Kb)(c':Nat)(v:m_)(w:j_)(S:Nat->Prop)(hS:∀g,S g->g<w.heap.size)(hX:aS S w v xs)(bk:bW S w (eV E A' c') E)(hl:xs.length<=100000):
  H_ h_ 70 #[v,eV E A' c'] w λe w'=>∃A c,e=k_ (a_ A (aq aB E xs).length c)/\aS (fO S w w') w' (a_ A (aq aB E xs).length c) (aq aB E xs)/\n_ w w w':=by
 obtain⟨A,c,rfl,hc,hm⟩:=hX.form;obtain⟨bg,cl⟩:∃o,o=aq aB E xs:=⟨_,rfl⟩;rw[<-cl];have c9:bg=Gv E (an aB (aB E) xs):=by rw[cl,BC,zj]
 have df:=vJ (E:=E) (xs:=xs);have gp:(an aB (aB E) xs).length<=xs.length:=KX _ _;have gv:E.uri.size<=9223372036854775807:=by obtain⟨_,_,_,h,_⟩:=bk;exact h
 obtain⟨W1,bp⟩:=N_ (w.alloc (f_ #[g_ E.uri,e_ d_ E.bu,a_ A' E.aI.length c'] 55));have b0:n_ w w W1:=by rw[bp];exact B_.alloc L_ _
 have cm:W1.heap[w.heap.size]?=c_ (f_ #[g_ E.uri,e_ d_ E.bu,a_ A' E.aI.length c'] 55 (0,0)):=by rw[bp];exact r_ _ _
 have cp:=Z_ (iC xs E.uri _ W1 S (λg G=>by have:=hS g G;have:=b0.size;omega) (hX.ae λg G=>⟨G,b0.block g (hS g G)⟩) O_);change x_ (H_ h_ 71 _ W1 λe w'=>∃A c,e=k_ (a_ A (an aB (aB E) xs).length c)/\aS (fO S W1 w') w' (a_ A (an aB (aB E) xs).length c) (an aB (aB E) xs)/\n_ W1 W1 w')at cp;obtain⟨x0,x1,x2⟩:=aR cm;have cr:=Z_ cm;have b1:=Z_ b0;have bj:=Z_ c9;have e4:=Z_ df;have ct:=Z_ bk;have HS:=Z_ hS;rw[bp]at x0 x1 x2;clear hX hS b0 cm c9 df bk cl hc hm;unfold eV;go_enter Tryz.func70,Tryz.ntmps70;go_wp2_with fail;rw[<-bp]at x0 x1 x2⊢;clear bp;refine cp.o.mono ?_;rintro e t ⟨Ao,co,rfl,hO,b3⟩;have HO:=Z_ hO;have gy:=b3.size;have dv:=ao cr.o;have HB:x_ (n_ w w t):=Z_ (b1.o.trans (b3.mono b1.o.size));have eb:w.heap.size<=t.heap.size:=HB.o.size;have ec:w.heap.size<t.heap.size:=by omega
 have cd:=(b3.block _ dv).trans cr.o;have HE:x_ (∀W',n_ t t W'->bW S W' (eV E A' c') E/\W'.cell? ⟨w,0,b_⟩=c_ (g_ E.uri)/\W'.cell? ⟨w,1,b_⟩=c_ (e_ d_ E.bu)/\W'.cell? ⟨w,2,b_⟩=c_ (a_ A' E.aI.length c')):=
  Z_ λW' h=>by
   obtain⟨y0,y1,y2⟩:=aR ((h.block _ ec).trans cd);exact⟨ct.o.ae λg G=>⟨G,(h.block g (by have:=HS.o g G;omega)).trans (HB.o.block g (HS.o g G))⟩,y0,y1,y2⟩
 have b5:x_ (∀g,fO S W1 t g->(S g\/w.heap.size<=g)/\g<t.heap.size):=Z_ λg G=>by
  rcases G with G|G
  ·exact⟨.inl G,by have:=HS.o g G;omega⟩
  exact⟨.inr (by have:=b1.o.size;omega),G.2⟩
 clear cp hO b3 cd cr b1 x0 x1 x2;change x_ (aS (fO S W1 t) t (a_ Ao (an aB (aB E) xs).length co) (an aB (aB E) xs))at HO;generalize e5:an aB (aB E) xs=out at*;obtain⟨W2,b6⟩:=N_ (t.alloc (f_ #[] 55));have J:n_ t t W2:=by rw[b6];exact B_.alloc L_ _
 have e6:x_ (az 55 3 (iF (λg=>S g\/w.heap.size<=g)) 0 t W2 [] (a_ (c_ ⟨t,0,b_⟩) 0 0) []):=Z_ (by rw[b6];exact az.made t L_);have e7:=Z_ J;clear J e5;go_wp2;rw[<-b6];clear b6
 go_loopw [5,6,7] (λsv pv jv W'=>∃(j:Nat) (us:List m_),j<=out.length/\pv=u_ (kq E (out.take j)).2/\jv=e_ d_ j/\x_ (az 55 3 (iF (λg=>S g\/w.heap.size<=g)) 0 t W' (kq E (out.take j)).1 sv us)/\x_ (n_ t t W')) (λ_ _ jv _=>out.length - (A_ jv).toNat)
 case atStart=>exact⟨0,[],by omega,rfl,rfl,e6,e7⟩
 obtain⟨j,us,hj,rfl,rfl,HR,Z⟩:=hrel;have ee:=Z.o.size;have a2:(kq E (out.take j)).1.length<=2*j:=by
  have:=DF E (out.take j);rw[JN]at this;omega
 obtain⟨-,x0,x1,x2⟩:=HE.o wr Z.o;by_cases cu:j<out.length
 ·obtain⟨b2,bt,A2,c2,rfl,J,cg,eg,y0,y1,y2⟩:=(HO.o.ae (S':=fO S W1 t) λg G=>⟨G,Z.o.block g (b5.o g G).2⟩).arg cu
  have J:=(b5.o b2 J).2;have bx:=BD E cu;have HY:x_ (∀W',n_ t wr W'->bW (fO S W1 t) W' (eV out[j] A2 c2) out[j]/\W'.cell? ⟨b2,bt+j*3,b_⟩=c_ (g_ out[j].uri)/\W'.cell? ⟨b2,bt+j*3+1,b_⟩=c_ (e_ d_ out[j].bu)/\W'.cell? ⟨b2,bt+j*3+2,b_⟩=c_ (a_ A2 out[j].aI.length c2)):=Z_ λW' h=>
   ⟨⟨A2,c2,rfl,cg,eg.ae λg G=>⟨G,h.block g (by have:=(b5.o g G).2;omega)⟩⟩,(h.cell (p:=⟨_,_,b_⟩) J).trans y0,(h.cell (p:=⟨_,_,b_⟩) J).trans y1,(h.cell (p:=⟨_,_,b_⟩) J).trans y2⟩
  generalize kq E (out.take j)=st at*;obtain⟨acc,pl⟩:=st;simp only at a2 bx HR⊢;clear eg cg;have hn:¬out[j].uri=E.uri:=e4.o _ (JB cu);generalize out[j]=Y at*;have en:x_ (∀g,u5.ownBlock=c_ g->t.heap.size<=g/\g<wr.heap.size):=Z_ λg e=>HR.o.lt g e
  have eo:x_ (∀(wa wb:j_) (n:Nat),n_ t t wa->az 55 3 (iF (λg=>S g\/w.heap.size<=g)) 0 t wa acc u5 us->n_ t wr wa->wb=wa.drewN n->n_ t t wb/\az 55 3 (iF (λg=>S g\/w.heap.size<=g)) 0 t wb acc u5 us/\n_ t wr wb):=Z_ λwa wb n h1 h2 h3 e=>by
   subst e;exact⟨below_drewN h1 n,az.below (R:=iF (λg=>S g\/w.heap.size<=g)) iF.ae h2 (below_drewN B_ n),below_drewN h3 n⟩
  go_wp2_with fail;have ev:x_ (n_ t wr wr):=Z_ B_;have cb:(pl=o_/\K4 E.uri.toList Y.uri.toList=v_)\/pl=v_\/(pl=o_/\K4 E.uri.toList Y.uri.toList=o_):=by
   cases pl with
   |true=>exact .inr (.inl rfl)
   |false=>
    cases hb:K4 E.uri.toList Y.uri.toList with
    |false=>exact .inr (.inr ⟨rfl,rfl⟩)
    |true=>exact .inl ⟨rfl,rfl⟩
  rcases cb with ch|cb
  focus
   have ba:kq E (out.take (j+1))=((acc++[E])++[Y],v_):=by rw[bx];rw[lS hn,G_ ch]
   obtain⟨rfl,eA⟩:=ch
   go_quiet (fail)
   generalize ad:wr.drewN nq=V;obtain⟨bb,cv,J⟩:=eo.o wr V nq Z.o HR.o ev.o ad.symm;obtain⟨bk,x0,x1,x2⟩:=HE.o V bb;have ct:=Z_ bk;have cx:=Z_ cv;have eC:=Z_ bb;have e8:=Z_ J;have gz:=bb.size;obtain⟨U,I⟩:=N_ (acc++[E]);rw[<-I]at ba;have cB:=Z_ ba;have bB:=Z_ I;have D:=cv.own;obtain⟨bN,K⟩:=N_ (us.flatMap cX);obtain⟨m,hm⟩:=N_ (acc.length);rw[<-K,<-hm]at D;rw[<-hm]at a2;have bm:=Z_ K;have HM:=Z_ hm;have ck:U.length<=2*j+1:=by rw[I,p_,<-hm];simp;omega
   clear hn bx ba I K hm ad bk cv bb J y0 y1 y2;go_upto_region 10 with(at_builtin;refine dc _ rfl _ _ _ rfl t _ 3 EP _ m bN rfl (Kf D _) ⟨V,0,b_⟩ 1 1 [g_ E.uri,e_ d_ E.bu,a_ A' E.aI.length c'] rfl rfl (bF _ _ _) (uB _ _ _ _ _) O_ (by simp;omega) ?_;intro v3 w3 bO cE bR);have bd:az 55 3 (iF (λg=>S g\/w.heap.size<=g)) 0 t w3 U v3 (us++[eV E A' c']):=by
    rw[bB.o];refine kR (T:=S) cx.o ct.o (λg G=>⟨.inl G,by have:=HS.o g G;omega⟩) O_ ?_ cE bR;rw[<-HM.o,<-bm.o];exact bO
   have e0:Gr V w3 u5 v3:=Gr.app cE bR;have cF:n_ t V w3:=e0.below O_ λg e=>(en.o g e).1
   have bn:n_ t t w3:=eC.o.trans cF;obtain⟨c6,ak⟩:=N_ (us++[eV E A' c']);obtain⟨W4,X⟩:=N_ (w3);obtain⟨e9,M⟩:=N_ (v3);have cc:=HY.o w3 (e8.o.trans cF);rw[<-ak,<-X,<-M]at bd;rw[<-X]at bn cc;rw[<-M,<-X];clear bO cE bR e0 cF D bB bm HM X M ak eA a2 x0 x1 x2
  rotate_left
  focus
   have ba:kq E (out.take (j+1))=(acc++[Y],pl):=by
    rw[bx];rw[lS hn,I_];rintro⟨h1,h2⟩;rcases cb with h|⟨-,h⟩
    ·rw[h]at h1;cases h1
    rw[h]at h2;cases h2
   obtain⟨U,I⟩:=N_ (acc);have ck:U.length<=2*j+1:=by rw[I];omega
   clear hn bx;rcases cb with rfl|⟨rfl,eA⟩;all_goals
    go_quiet (fail)
    generalize ad:wr.drewN nq=V;obtain⟨bb,bd,J⟩:=eo.o wr V nq Z.o HR.o ev.o ad.symm;rw[<-I]at ba bd;have cB:=Z_ ba;clear ba ad I;go_upto_region 10 with fail;obtain⟨c6,ak⟩:=N_ (us);obtain⟨W4,X⟩:=N_ (V);obtain⟨e9,M⟩:=N_ (u5);have bn:=bb;have cc:=HY.o V J;rw[<-ak,<-X,<-M]at bd;rw[<-X]at bn cc;rw[<-M,<-X];clear X M ak a2 x0 x1 x2 y0 y1 y2 bb J
  all_goals
   have D:=bd.own;obtain⟨bN,K⟩:=N_ (c6.flatMap cX);obtain⟨m,hm⟩:=N_ (U.length);rw[<-K,<-hm]at D;rw[<-hm]at ck;have bm:=Z_ K;have HM:=Z_ hm;have fb:=Z_ bd;have fi:=Z_ bn;obtain⟨e1,y0,y1,y2⟩:=cc;have fr:=Z_ e1;have e2:t.heap.size<=W4.heap.size:=bn.size;clear K hm bd bn e1;go_wp2_with (at_builtin;refine dc _ rfl _ _ _ rfl t _ 3 EP _ m bN rfl (Kf D _) ⟨W4,0,b_⟩ 1 1 [g_ Y.uri,e_ d_ Y.bu,a_ A2 Y.aI.length c2] rfl rfl (bF _ _ _) (uB _ _ _ _ _) O_ (by simp;omega) ?_;intro v5 w5 O bf av);have bo:az 55 3 (iF (λg=>S g\/w.heap.size<=g)) 0 t w5 (U++[Y]) v5 (c6++[eV Y A2 c2]):=by
    refine kR (T:=fO S W1 t) fb.o fr.o b5.o e2 ?_ bf av;rw[<-HM.o,<-bm.o];exact O
   have fz:=Z_ bo;have HB5:x_ (n_ t t w5):=Z_ (bK fi.o e2 _ bf (λg e=>(D.lt g e).1));clear bo O bf av D y0 y1 y2;go_wp2;go_roundw
   case rel=>exact⟨j+1,_,by omega,by rw[cB.o],by go_num,Z_ (by rw[cB.o];exact fz.o),HB5⟩
   simp[A_];omega
 have gi:j=out.length:=by omega
 have hr:=HR.o;rw[gi,JO]at hr a2⊢;have a1:x_ (Gv E out=if(kq E out).2 then(kq E out).1 else(kq E out).1++[E]):=Z_ rfl;have e3:n_ w w wr:=HB.o.trans (Z.o.mono eb);have gn:=Z_ e3;clear e3 HR;generalize kq E out=st at*;obtain⟨acc,pl⟩:=st;simp only at a2 hr a1⊢;have en:x_ (∀g,u5.ownBlock=c_ g->t.heap.size<=g/\g<wr.heap.size):=Z_ λg e=>hr.lt g e
 cases pl with
 |true=>
  have hf:bg=acc:=by rw[bj.o,a1.o];rfl
  have c7:=Z_ hr.zV;obtain⟨Af,cf,c8,-,-⟩:=hr.form;clear hr bj a1;subst c8;go_wp2;go_ret;exact⟨Af,cf,by rw[hf];rfl,by rw[hf];exact c7.o.ae λg G=>⟨G.1.elim (λh=>h.imp id (λh=>⟨h,G.2⟩)) (λh=>.inr ⟨by omega,G.2⟩),rfl⟩,gn.o⟩
 |false=>
  have hf:bg=acc++[E]:=by rw[bj.o,a1.o];rfl
  have HF:=Z_ hf;have D:=hr.own;obtain⟨bN,K⟩:=N_ (us.flatMap cX);obtain⟨m,hm⟩:=N_ (acc.length);rw[<-K,<-hm]at D;rw[<-hm]at a2;have bm:=Z_ K;have HM:=Z_ hm;have cx:=Z_ hr;clear K hm hf hr bj a1;go_wp2_with (at_builtin;refine dc _ rfl _ _ _ rfl t _ 3 EP _ m bN rfl (Kf D _) ⟨wr,0,b_⟩ 1 1 [g_ E.uri,e_ d_ E.bu,a_ A' E.aI.length c'] rfl rfl (bF _ _ _) (uB _ _ _ _ _) O_ (by simp;omega) ?_;intro v5 w5 O bf av);have bo:az 55 3 (iF (λg=>S g\/w.heap.size<=g)) 0 t w5 bg v5 (us++[eV E A' c']):=by
   rw[HF.o];refine kR (T:=S) cx.o (HE.o wr Z.o).1 (λg G=>⟨.inl G,by have:=HS.o g G;omega⟩) ee ?_ bf av;rw[<-HM.o,<-bm.o];exact O
  have c7:=Z_ bo.zV;obtain⟨Af,cf,c8,-,-⟩:=bo.form;have HB5:x_ (n_ w w w5):=Z_ (HB.o.trans ((bK Z.o ee _ bf (λg e=>(D.lt g e).1)).mono eb));clear bo O bf av D x0 x1 x2;subst c8;go_wp2;go_ret;exact⟨Af,cf,rfl,c7.o.ae λg G=>⟨G.1.elim (λh=>h.imp id (λh=>⟨h,G.2⟩)) (λh=>.inr ⟨by omega,G.2⟩),rfl⟩,HB5.o⟩
def qt(S:Nat->Prop)(xs:List En)(L:List UInt8)(w:j_)(e:Ending)(w':j_):Prop:=
 n_ w.heap.size w w'/\∃(A:Option Kb) (n c:Nat) (ok:Bool),e=k_ (J_ #[a_ A n c,u_ ok])/\(cL xs L=b_->ok=o_)/\
  ∀ys,cL xs L=c_ ys->ok=v_/\n=ys.length/\aS (fO S w w') w' (a_ A n c) ys
theorem iX{xs:List En}{n:Nat}(h:cL xs L=b_)(j:n_ w w w'):qt S xs L w (k_ (J_ #[a_ A n c,u_ o_])) w':=
 ⟨j,A,n,c,o_,rfl,λ_=>rfl,λt h2=>by rw[h]at h2;cases h2⟩
theorem AU{xs j:List En}(h:cL xs L=c_ j)(t:n_ w w w')(hx:aS (fO S w w') w' (a_ A j.length c) j):qt S xs L w (k_ (J_ #[a_ A j.length c,u_ v_])) w':=
 ⟨t,A,j.length,c,v_,rfl,(λh2=>by rw[h]at h2;cases h2),λD h2=>by rw[h]at h2;injection h2 with h2;subst h2;exact⟨rfl,rfl,hx⟩⟩
theorem eG{xs:List En}(h:de L=b_):cL xs L=none:=by unfold cL;rw[h]
theorem Cp{xs:List En}{e:En}(h:de L=c_ (e,o_)):cL xs L=c_ (an aB (aB e) xs):=by unfold cL;rw[h]
theorem Co{xs:List En}{e:En}(h:de L=c_ (e,v_)):cL xs L=c_ (aq aB e xs):=by unfold cL;rw[h]
theorem BZ(xs:List En)(L:List UInt8)(vx v:m_)(w:j_)(S:Nat->Prop)(hS:∀g,S g->g<w.heap.size)(hX:aS S w vx xs)(cf:bw w w v (byteCells L))(cF:xs.length<=100000)(hB:L.length<=1000000):H_ h_ 58 #[vx,v] w (qt S xs L w):=by
 obtain⟨P,hP⟩:=N_ (qt S xs L w);have K:=Z_ hP;rw[<-hP];clear hP;obtain⟨Ax,cx,rfl,fi,fr⟩:=hX.form;have HX:=Z_ hX;have HS:=Z_ hS;obtain⟨A,c,rfl,hc,hm,c7⟩:=cf.bq;have c9:=Z_ c7;have df:=Z_ cf;have dv:=Z_ cF;have av:x_ (n_ w w w):=Z_ B_;clear hX hS cf c7 fi fr;generalize eb:xs.length=xn at*;have bn:=Z_ eb;clear eb cF;by_cases h2:L.length<2
 ·have g2:(L.length:Int)<2:=by omega
  have a1:x_ (cL xs L=b_):=Z_ (eG (by unfold de;rw[G_ (.inl h2)]));go_enter Tryz.func58,Tryz.ntmps58;go_wp2;rw[K.o];exact iX a1.o av.o
 have fz:2<=L.length:=by omega
 obtain⟨b,off,x0,rfl,hb,gn,gp,gv⟩:=c9.o.byte (show 0<L.length by omega);obtain⟨_,_,D,e1,-,hD,a2,cg⟩:=c9.o.byte (show 1<L.length by omega);cases e1;simp only[L5]at gn;have g2:¬(L.length:Int)<2:=by omega
 have gi:1<L.length:=by omega
 by_cases hn:L.length - 2<D
 ·have g3:(L.length:Int)<2+(D:Int):=by omega
  have a1:x_ (cL xs L=b_):=Z_ (eG (by unfold de;rw[G_ (.inr (by rw[cg.o];exact hn))]));go_enter Tryz.func58,Tryz.ntmps58;go_wp2;rw[K.o];exact iX a1.o av.o
 have ba:2+D<=L.length:=by omega
 have g3:¬(L.length:Int)<2+(D:Int):=by omega
 obtain⟨ec,A3,c3,bb,bd⟩:=nE df.o 2 (2+D) O_ ba;obtain⟨A4,c4,b2,b3⟩:=fJ df.o (2+D) ba;rw[Lu]at bb bd;have r3:∀w',(KO 24 (a_ (c_ ⟨b,off,b_⟩) L.length c) (c_ (e_ d_ 2)) (c_ (e_ d_ (2+(D:Int)))) b_).run h_ w'=.ok (a_ A3 D c3) w':=λw'=>by
  have:=oE (c_ ⟨b,off,b_⟩) L.length c 2 (2+D) w' O_ ec;rw[bb]at this;exact this
 have r4:∀w',(KO 24 (a_ (c_ ⟨b,off,b_⟩) L.length c) (c_ (e_ d_ (2+(D:Int)))) b_ b_).run h_ w'=.ok (a_ A4 (L.length - (2+D)) c4) w':=λw'=>by
  have:=eF (c_ ⟨b,off,b_⟩) L.length c (2+D) w' ba;rw[b2]at this;exact this
 have k3:(convert 24 9 (a_ A3 D c3)).run h_ w=.ok (g_ ⟨((L.drop 2).take D).toArray⟩) w:=lp bd;obtain⟨U,hU⟩:∃U:ByteArray,U=⟨((L.drop 2).take D).toArray⟩:=⟨_,rfl⟩;have ch:U.size=D:=by
  rw[hU];show((L.drop 2).take D).toArray.size=_;simp only[KB,JN,Kr];omega
 rw[<-hU]at k3;obtain⟨M,hM⟩:=N_ (L.length - (2+D));rw[<-hM]at r4;rw[<-ch]at r4;have gy:x_ (∀W,H_ h_ 77 #[g_ U] W λe w'=>e=k_ (u_ (dy U))/\w'=W):=Z_ λW=>xq U O_ W
 have ee:=Z_ b3;have eg:(D:Int)<=255:=by omega
 have hE:U.size<=255:=by omega
 have HN:=Z_ ba;have gz:=Z_ hU;have ck:=Z_ hM;have cl:=Z_ ch;clear bd b3 bb b2 hU hM ch hn ec gp a2 hc hm h2 fz ba;go_enter Tryz.func58,Tryz.ntmps58;go_wp2_with fail;refine(gy.o _).mono ?_;rintro e t ⟨rfl,rfl⟩;by_cases hu:dy U=v_
 rotate_left
 ·have bf:dy U=false:=by simpa using hu
  have a1:x_ (cL xs L=b_):=Z_ (eG (by
   unfold dy at bf;rw[cl.o]at bf;have:=Ls bf;unfold de;rw[cg.o,I_ (by have:=HN.o;omega),G_ this]))
  rw[bf];clear hu bf;go_wp2;rw[K.o];exact iX a1.o av.o
 have bo:=hu;unfold dy at bo;rw[cl.o]at bo;have en:=Z_ (Kv bo);have j:x_ (de L=gX U x0 (L.drop (2+D))):=Z_ (by
  unfold de;rw[cg.o,I_ (by have:=HN.o;omega),I_ (λhn=>hn en.o),gz.o,gv.o])
 obtain⟨R,hR⟩:=N_ (L.drop (2+D));have V:R.length=M:=by rw[hR,ck.o,Kr]
 have G:bw t t (a_ A4 R.length c4) (byteCells R):=by rw[V,ck.o,hR];exact ee.o
 rw[<-hR]at j;rw[hu];clear hu bo;by_cases bg:x0=2
 ·subst bg
  have HT:x_ (de L=if R.length=0 then c_ (⟨U,0,[]⟩,o_)else b_):=Z_ (by rw[j.o];rfl);have Y:=Z_ (iC xs U _ t S HS.o (by rw[<-bn.o]at HX;exact HX.o) (by rw[bn.o];have:=dv.o;omega));rw[bn.o]at Y;have bp:=Z_ V;clear j G hR V;go_wp2_with fail;refine Y.o.mono ?_;rintro e w3 ⟨A5,c5,rfl,eo,Z⟩;have ev:=Z_ eo;have HB5:=Z_ Z;clear eo Z Y;obtain⟨n5,bt⟩:=N_ ((an aB U.data.toList xs).length);rw[<-bt];rw[<-bt]at ev;have g0:=Z_ bt;clear bt;go_wp2;rw[K.o];by_cases g1:M=0
  ·have hs:cL xs L=c_ (an aB U.data.toList xs):=Cp (e:=⟨U,0,[]⟩) (by rw[HT.o,G_ (by have:=bp.o;omega)])
   have hx:=ev.o;rw[g0.o]at hx⊢;rw[show((M:Int)==0)=v_ by subst g1;rfl];exact AU hs HB5.o hx
  have hs:cL xs L=none:=eG (by rw[HT.o,I_ (by have:=bp.o;omega)]);rw[show((M:Int)==0)=o_ by rw[KN];omega];exact iX hs HB5.o
 have hA:((x0:Int)==2)=false:=by rw[KN];omega
 by_cases a2:x0=1
 rotate_left
 ·have eg:((x0:Int) !=1)=true:=by simp only[bne_iff_ne,ne_eq];omega
  have O:x_ (cL xs L=b_):=Z_ (eG (by rw[j.o];exact tH bg a2));clear j G hR V bg a2;go_wp2;rw[K.o];exact iX O.o av.o
 subst a2;by_cases g4:M<4
 ·have eC:(M:Int)<4:=by omega
  have O:x_ (cL xs L=b_):=Z_ (eG (by rw[j.o];exact pN O_));clear j G hR V bg;go_wp2;rw[K.o];exact iX O.o av.o
 have e0:¬R.length<4:=by omega
 have eC:¬(M:Int)<4:=by omega
 obtain⟨A5,c5,b5,b6⟩:=fJ G 4 O_;have r5:∀w',(KO 24 (a_ A4 M c4) (c_ (e_ d_ 4)) b_ b_).run h_ w'=.ok (a_ A5 (M - 4) c5) w':=λw'=>by
  have:=eF A4 R.length c4 4 w' O_;rw[b5,V]at this;exact this
 obtain⟨hF,hG,eA,_,_,X⟩:=G.bq;injection eA with g5 _ g6;subst g5 g6;obtain⟨b4,o4,z0,g7,hH,e2,bx,g8⟩:=X.byte (show 0<R.length by omega);subst g7;obtain⟨_,_,z1,e1,-,ha,bB,hf⟩:=X.byte (show 1<R.length by omega);cases e1;obtain⟨_,_,z2,e1,-,hh,bN,hl⟩:=X.byte (show 2<R.length by omega);cases e1;obtain⟨_,_,z3,e1,-,ho,bO,hq⟩:=X.byte (show 3<R.length by omega);cases e1;simp only[L5]at e2;have bj:cI (R.take 4)=z0*16777216+z1*65536+z2*256+z3:=by rw[FP R O_,g8.o,hf.o,hl.o,hq.o]
 obtain⟨N,hN⟩:∃N:Nat,N=z0*16777216+z1*65536+z2*256+z3:=⟨_,rfl⟩;have e3:=Hv z0 z1 z2 z3 bx bB bN bO;rw[<-hN]at e3 bj;have cm:=Z_ bj;have hJ:N<4294967296:=by rw[hN];exact FO z0 z1 z2 z3 bx bB bN bO
 clear hN;have hK:0<M:=by omega
 have hL:1<M:=by omega
 have hO:2<M:=by omega
 have hQ:3<M:=by omega
 have hT:=iJ z0 bx;have hV:=iJ z1 bB;have hs2:=iJ z2 bN;have hW:=iJ z3 bO;have e4:=Z_ b6;have cp:=Z_ e0;have bp:=Z_ V;have cb:(R.drop 4).length<=1000000:=by rw[Kr];have:=ck.o;omega
 have e5:=Z_ cb;clear X G b5 b6 bj e0 V hR bx bB bN bO cb bg g4;go_wp2_with fail
 go_region
 obtain⟨W5,bk⟩:=N_ ((t.alloc (f_ #[g_ U,e_ d_ (N:Int),a_ b_ 0 0] 55)).drew);have cc:W5.heap[t.heap.size]?=c_ (f_ #[g_ U,e_ d_ (N:Int),a_ b_ 0 0] 55 (0,0)):=by
  rw[bk];exact r_ t _
 have Z:n_ t t W5:=by
  have h:=(JG t t).alloc L_ (f_ #[g_ U,e_ d_ (N:Int),a_ b_ 0 0] 55);rw[bk];exact⟨h.os,h.tape,h.output,h.size,h.block⟩
 have cr:W5.heap.size=t.heap.size+1:=by
  rw[bk];show(t.alloc (f_ #[g_ U,e_ d_ (N:Int),a_ b_ 0 0] 55)).heap.size=_;simp
 have bm:bw W5 W5 (a_ A5 (R.length - 4) c5) (byteCells (R.drop 4)):=(e4.o.below Z).more O_;rw[bp.o]at bm;have e6:=wR (R.drop 4) e5.o _ W5 bm;have HB5:=Z_ Z;have e7:=Z_ cc;have ht:=Z_ cr;have hv:=Z_ e6;rw[<-bk];clear e6 bm cr Z bk cc e3 e2 ha hh ho;go_wp2_with fail;refine hv.o.mono ?_;rintro e w6 ⟨ad,v6,rfl,bR,b0⟩;have hY:=ad.size;have cr:=ht.o;have I:=(ad.block _ O_).trans e7.o;have HB6:x_ (n_ t t w6):=Z_ (HB5.o.trans (ad.mono O_));have ct:x_ (∀u:m_,n_ t t (w6.setCell ⟨t,2,b_⟩ u)):=Z_ λu=>HB6.o.trans (((Kept.refl (·=t.heap.size) _).setCell (p:=⟨t,2,b_⟩) (.inl rfl) _).below O_ (λk hk=>by omega))
 obtain⟨y0,y1,y2⟩:=aR I;obtain⟨q0,q1,q2⟩:=au I;cases hd:fE (R.drop 4)with
 |none=>
  have O:x_ (cL xs L=b_):=Z_ (eG (by rw[j.o];exact tG cp.o hd));have hy:=b0 hd;subst hy;clear bR b0 ad I j;dsimp only[MN];go_wp2;rw[K.o];exact iX O.o (ct.o _)
 |some ys=>
  have b1:=bR ys hd;obtain⟨A6,c6,rfl,-,-⟩:=b1.form;dsimp only[MN];by_cases hN:1073741824<=N
  ·have hz:(1073741824:Int)<=(N:Int):=by omega
   have O:x_ (cL xs L=b_):=Z_ (eG (by rw[j.o];exact tF cp.o (by rw[cm.o];exact hN)));clear bR b0 ad I b1 j;go_wp2;rw[K.o];exact iX O.o (ct.o _)
  have hz:¬(1073741824:Int)<=(N:Int):=by omega
  have O:x_ (cL xs L=c_ (aq aB ⟨U,(N:Int),ys⟩ xs)):=Z_ (Co (by rw[j.o,<-cm.o];exact xJ cp.o hd (by rw[cm.o];exact hN)));obtain⟨W7,ak⟩:=N_ (w6.setCell ⟨t,2,b_⟩ (a_ A6 ys.length c6));have cd:W7.heap[t.heap.size]?=c_ (f_ #[g_ U,e_ d_ (N:Int),a_ A6 ys.length c6] 55 (0,0)):=by
   rw[ak];have:=ai I 2 (a_ A6 ys.length c6);simpa using this
  have cu:Kept (·=t.heap.size) w6 W7:=by rw[ak];exact(Kept.refl (·=t.heap.size) _).setCell (p:=⟨t,2,b_⟩) (.inl rfl) _
  have cv:n_ t t W7:=by rw[ak];exact ct.o _
  have cB:=cu.size;have e8:=po xs ⟨U,(N:Int),ys⟩ A6 c6 (a_ Ax xn cx) W7 (λg=>S g\/(t.heap.size<=g/\g<W7.heap.size))
   (λg J=>by
    rcases J with J|J
    ·have:=HS.o g J;omega
    exact J.2)
   (HX.o.ae λg J=>⟨.inl J,cv.block g (HS.o g J)⟩)
   ⟨A6,c6,rfl,by show U.size<=_;have:=en.o;rw[cl.o];omega,b1.ae λg J=>⟨.inr ⟨by omega,by omega⟩,cu.block g J.2 O_⟩⟩ (by rw[bn.o];have:=dv.o;omega)
  have Y:=Z_ e8;have e9:=Z_ cv;obtain⟨p0,p1,p2⟩:=aR cd;rw[ak]at p0 p1 p2;clear bR b0 ad I b1 j e8 cv cd cu cB;change x_ (H_ h_ 70 #[a_ Ax xn cx,JI #[g_ U,e_ d_ (N:Int),a_ A6 ys.length c6]] W7 _)at Y;go_wp2_with fail;rw[<-ak];clear ak p0 p1 p2 y0 y1 y2 q0 q1 q2;refine Y.o.mono ?_;rintro e w8 ⟨A8,c8,rfl,fb,cE⟩;have cB:=e9.o.size;have HF:x_ (qt S xs L t (k_ (J_ #[a_ A8 (aq aB ⟨U,(N:Int),ys⟩ xs).length c8,u_ v_])) w8):=Z_ (AU O.o (e9.o.trans (cE.mono cB)) (fb.ae λg J=>⟨by
   have:=cE.size;rcases J with J|J
   ·rcases J with J|J
    ·exact .inl J
    exact .inr ⟨J.1,by omega⟩
   exact .inr ⟨by omega,J.2⟩,rfl⟩))
  generalize(aq aB ⟨U,(N:Int),ys⟩ xs).length=n8 at*;clear fb cE;go_wp2;rw[K.o];exact HF.o
structure si(w:j_)(B:Nat)(pw gen:Int)(fv bv rv lv:m_)(W:j_):Prop where
 below:n_ w.heap.size w W
 lo:w.heap.size+2<=B
 size:B+2<=W.heap.size
 h1:W.heap[w.heap.size+1]?=c_ (f_ #[e_ d_ 0,a_ b_ 0 0,e_ d_ 0,a_ b_ 0 0,a_ b_ 0 0,a_ b_ 0 0] 47 (0,0))
 hj:W.heap[B]?=c_ (f_ #[e_ d_ pw,fv,e_ d_ gen,bv,rv] 44 (0,0))
 hx:W.heap[B+1]?=c_ (f_ #[e_ d_ pw,fv,e_ d_ gen,bv,rv,lv] 47 (0,0))
section
variable{w W W':j_}{B:Nat}{pw gen:Int}{fv bv rv lv:m_}
theorem si.go(h:si w B pw gen fv bv rv lv W)(j:n_ W W W'):si w B pw gen fv bv rv lv W':=by
 have G:=h.size;have t:=h.lo;have D:=j.size;exact⟨h.below.trans (j.mono O_),t,by omega,(j.block _ O_).trans h.h1,(j.block _ O_).trans h.hj,(j.block _ O_).trans h.hx⟩
theorem si.cK(h:si w B pw gen fv bv rv lv W):
  W.cell? ⟨B+1,0,b_⟩=c_ (e_ d_ pw)/\W.cell? ⟨B+1,1,b_⟩=c_ fv/\W.cell? ⟨B+1,2,b_⟩=c_ (e_ d_ gen)/\W.cell? ⟨B+1,3,b_⟩=c_ bv/\W.cell? ⟨B+1,4,b_⟩=c_ rv/\W.cell? ⟨B+1,5,b_⟩=c_ lv:=by
 have hx:=h.hx;simp[E_,hx]
theorem si.iZ(h:si w B pw gen fv bv rv lv W):W.frozen? ⟨B+1,5,b_⟩=false:=by
 have hx:=h.hx;simp[JW,hx]
theorem si.Gq(h:si w B pw gen fv bv rv lv W):
  W.cell? ⟨B,0,b_⟩=c_ (e_ d_ pw)/\W.cell? ⟨B,1,b_⟩=c_ fv/\W.cell? ⟨B,2,b_⟩=c_ (e_ d_ gen)/\W.cell? ⟨B,3,b_⟩=c_ bv/\W.cell? ⟨B,4,b_⟩=c_ rv:=by
 have hj:=h.hj;simp[E_,hj]
theorem si.gP(h:si w B pw gen fv bv rv lv W):
  (W.cell? ⟨w+1,0,b_⟩=c_ (e_ d_ 0)/\W.cell? ⟨w+1,1,b_⟩=c_ (a_ b_ 0 0)/\W.cell? ⟨w+1,2,b_⟩=c_ (e_ d_ 0)/\W.cell? ⟨w+1,3,b_⟩=c_ (a_ b_ 0 0)/\W.cell? ⟨w+1,4,b_⟩=c_ (a_ b_ 0 0)/\W.cell? ⟨w+1,5,b_⟩=c_ (a_ b_ 0 0))/\
  (W.frozen? ⟨w+1,0,b_⟩=o_/\W.frozen? ⟨w+1,1,b_⟩=o_/\W.frozen? ⟨w+1,2,b_⟩=o_/\W.frozen? ⟨w+1,3,b_⟩=o_/\W.frozen? ⟨w+1,4,b_⟩=o_/\W.frozen? ⟨w+1,5,b_⟩=o_):=by
 have h1:=h.h1;simp[E_,JW,h1]
theorem si.ret(h:si w B pw gen fv bv rv lv W):∃j,j=((((((W.setCell ⟨w+1,0,b_⟩ (e_ d_ pw)).setCell ⟨w+1,1,b_⟩ fv).setCell ⟨w+1,2,b_⟩ (e_ d_ gen)).setCell ⟨w+1,3,b_⟩ bv).setCell ⟨w+1,4,b_⟩ rv).setCell ⟨w+1,5,b_⟩ lv)/\
  (j.cell? ⟨w+1,0,b_⟩=c_ (e_ d_ pw)/\j.cell? ⟨w+1,1,b_⟩=c_ fv/\j.cell? ⟨w+1,2,b_⟩=c_ (e_ d_ gen)/\j.cell? ⟨w+1,3,b_⟩=c_ bv/\j.cell? ⟨w+1,4,b_⟩=c_ rv/\j.cell? ⟨w+1,5,b_⟩=c_ lv)/\Kept (·=w.heap.size+1) W j:=by
 have D:=ai (ai (ai (ai (ai (ai h.h1 0 (e_ d_ pw)) 1 fv) 2 (e_ d_ gen)) 3 bv) 4 rv) 5 lv;refine⟨_,rfl,?_,?_⟩
 ·have t:=D
  simp only[JE,J0,J3]at t;simp[E_,t]
 exact Kept.setCell (F:=(·=w.heap.size+1)) (p:=⟨w+1,5,b_⟩) (Kept.setCell (F:=(·=w.heap.size+1)) (p:=⟨w+1,4,b_⟩) (Kept.setCell (F:=(·=w.heap.size+1)) (p:=⟨w+1,3,b_⟩) (Kept.setCell (F:=(·=w.heap.size+1)) (p:=⟨w+1,2,b_⟩) (Kept.setCell (F:=(·=w.heap.size+1)) (p:=⟨w+1,1,b_⟩) (Kept.setCell (F:=(·=w.heap.size+1)) (p:=⟨w+1,0,b_⟩) (Kept.refl _ _) (.inl rfl) _) (.inl rfl) _) (.inl rfl) _) (.inl rfl) _) (.inl rfl) _) (.inl rfl) _
theorem si.xA(h:si w B pw gen fv bv rv lv W)(u:m_):si w B pw gen fv bv rv u (W.setCell ⟨B+1,5,b_⟩ u)/\Kept (·=B+1) W (W.setCell ⟨B+1,5,b_⟩ u):=by
 have j:Kept (·=B+1) W (W.setCell ⟨B+1,5,b_⟩ u):=(Kept.refl (·=B+1) _).setCell (p:=⟨B+1,5,b_⟩) (.inl rfl) _;have I:=h.size;have D:=h.lo;have G:=j.size;have t:=ai h.hx 5 u;simp only[JE,J0,J3]at t;exact⟨⟨h.below.trans (j.below O_ (λk j=>by omega)),D,by omega,(j.block _ O_ O_).trans h.h1,(j.block _ O_ O_).trans h.hj,t⟩,j⟩
end
theorem si.start{w t j:j_}{pw gen:Int}{fv bv rv:m_}(D:n_ w w t)(K:t.heap.size=w.heap.size+2)
  (h1:t.heap[w.heap.size+1]?=c_ (f_ #[e_ d_ 0,a_ b_ 0 0,e_ d_ 0,a_ b_ 0 0,a_ b_ 0 0,a_ b_ 0 0] 47 (0,0))) (G:n_ t t j):
  si w j pw gen fv bv rv (a_ b_ 0 0) ((j.alloc (f_ #[e_ d_ pw,fv,e_ d_ gen,bv,rv] 44)).alloc (f_ #[e_ d_ pw,fv,e_ d_ gen,bv,rv,a_ b_ 0 0] 47)):=by
 have J:=ah j (f_ #[e_ d_ pw,fv,e_ d_ gen,bv,rv] 44);have I:=ah (j.alloc (f_ #[e_ d_ pw,fv,e_ d_ gen,bv,rv] 44)) (f_ #[e_ d_ pw,fv,e_ d_ gen,bv,rv,a_ b_ 0 0] 47);have M:(j.alloc (f_ #[e_ d_ pw,fv,e_ d_ gen,bv,rv] 44)).heap.size=j.heap.size+1:=by simp
 have O:=G.size;refine⟨(D.trans (G.mono O_)).trans ((J.mono O_).trans (I.mono O_)),by omega,by simp,?_,?_,?_⟩
 ·rw[I.block _ O_,J.block _ O_,G.block _ O_];exact h1
 ·rw[I.block _ O_];exact r_ j _
 have:=r_ (j.alloc (f_ #[e_ d_ pw,fv,e_ d_ gen,bv,rv] 44)) (f_ #[e_ d_ pw,fv,e_ d_ gen,bv,rv,a_ b_ 0 0] 47);rw[M]at this;exact this
def qp(w w':j_)(r:Except Int (Nat×List (List UInt8)×List (List UInt8)))(gen:Int)(bv rv:m_)(Al:Option Kb)(nl cl:Nat)(er:Int):Prop:=match r with
 | .error n=>er=n
 | .ok x=>match replay [] (x.2.1++x.2.2)with
  |none=>er=200
  |some es=>er=0/\gen=(x.1:Nat)/\al (λb=>w.heap.size<=b/\b<w'.heap.size) w' bv x.2.1/\al (λb=>w.heap.size<=b/\b<w'.heap.size) w' rv x.2.2/\nl=es.length/\aS (λb=>w.heap.size<=b/\b<w'.heap.size) w' (a_ Al nl cl) es
def xW(w:j_)(S:Nat->Prop)(r:St×Except Int (Nat×List (List UInt8)×List (List UInt8)))(e:Ending)(w':j_):Prop:=
 ∃(A:Option Kb) (n c:Nat) (gen:Int) (Ab:Option Kb) (nb cb:Nat) (Ar:Option Kb) (nr cr:Nat) (Al:Option Kb) (nl cl:Nat) (er:Int),e=k_ (J_ #[JI #[e_ d_ r.1.aa,a_ A n c,e_ d_ gen,a_ Ab nb cb,a_ Ar nr cr,a_ Al nl cl],e_ d_ er])/\
  aA (fO S w w') w' (a_ A n c) r.1.files/\n_ w.heap.size w w'/\qp w w' r.2 gen (a_ Ab nb cb) (a_ Ar nr cr) Al nl cl er
structure IL(w w3:j_)(B:Nat)(pw gen:Int)(fv bv rv:m_)(ls:List (List UInt8))(k:Nat)(W:j_):Prop where
 ex:∃es Al cl,replay [] (ls.take k)=c_ es/\si w B pw gen fv bv rv (a_ Al es.length cl) W/\aS (λb=>w3.heap.size<=b/\b<W.heap.size) W (a_ Al es.length cl) es
 kept:Kept (·=B+1) w3 W
theorem xr{w W X:j_}{S:Nat->Prop}{r:St×Except Int (Nat×List (List UInt8)×List (List UInt8))}{B:Nat}{gen:Int}{A:Option Kb}{n c:Nat}{G I J:Option Kb}{K M O U nl V:Nat}{er:Int}(hS:∀b,S b->b<w.heap.size)
  (hx:si w B r.1.aa gen (a_ A n c) (a_ G K M) (a_ I O U) (a_ J nl V) W) (t:Kept (·=w.heap.size+1) W X) (hr:aA (λb=>S b\/(w.heap.size+2<=b/\b<W.heap.size)) W (a_ A n c) r.1.files)
  (D:qp w X r.2 gen (a_ G K M) (a_ I O U) J nl V er):
  xW w S r (k_ (J_ #[JI #[e_ d_ r.1.aa,a_ A n c,e_ d_ gen,a_ G K M,a_ I O U,a_ J nl V],e_ d_ er])) X:=by
 have Z:=hx.size;have hl:=hx.lo;have Y:=t.size;refine⟨A,n,c,gen,G,K,M,I,O,U,J,nl,V,er,rfl,?_,hx.below.trans (t.below O_ (λk t=>by omega)),D⟩;refine aA.ae hr λb j=>?_
 rcases j with j|j
 ·exact⟨.inl j,t.block b (by have:=hS b j;omega) (by have:=hS b j;omega)⟩
 exact⟨.inr ⟨by omega,by omega⟩,t.block b j.2 O_⟩
theorem mA(st:St)(hp:st.aa<=9223372036854775807)(A:Option Kb)(c:Nat)(S:Nat->Prop)(w:j_)(hS:∀b,S b->b<w.heap.size)(h:aA S w (a_ A st.files.length c) st.files)(hl:st.files.length<=900000)(hd:∀f∈st.files,f.data.length<=800000)
  (J:∀x,(aW st).2=.ok x->x.2.1.length+x.2.2.length<=100000/\∀l∈x.2.1++x.2.2,l.length<=1000000):
  H_ h_ 16 #[JI #[e_ d_ st.aa,a_ A st.files.length c]] w (xW w S (aW st)):=by
 obtain⟨W0,M⟩:=N_ ((w.alloc (f_ #[e_ d_ st.aa,a_ A st.files.length c] 33)).alloc (f_ #[e_ d_ 0,a_ b_ 0 0,e_ d_ 0,a_ b_ 0 0,a_ b_ 0 0,a_ b_ 0 0] 47));have cd:n_ w w W0:=by rw[M];exact(B_.alloc L_ _).alloc (by simp) _
 have cf:W0.heap.size=w.heap.size+2:=by rw[M];simp
 have bR:W0.heap[w.heap.size+1]?=c_ (f_ #[e_ d_ 0,a_ b_ 0 0,e_ d_ 0,a_ b_ 0 0,a_ b_ 0 0,a_ b_ 0 0] 47 (0,0)):=by
  rw[M];have:=r_ (w.alloc (f_ #[e_ d_ st.aa,a_ A st.files.length c] 33)) (f_ #[e_ d_ 0,a_ b_ 0 0,e_ d_ 0,a_ b_ 0 0,a_ b_ 0 0,a_ b_ 0 0] 47);rwa[JQ]at this
 have cg:=Z_ (DR st hp A c S W0 (λb j=>by have:=hS b j;omega) (aA.below h hS cd) hl hd);obtain⟨r,hr⟩:=N_ (aW st);rw[<-hr]at cg J;rw[<-hr];have cx:∀n,r.2=.error n->n≠0:=λn hn=>by rw[hr]at hn;exact rD hn
 obtain⟨P,hP⟩:=N_ (xW w S r);have cB:=Z_ hP;rw[<-hP];have e4:=Z_ J;have cE:=Z_ cx;have HS:=Z_ hS;have e5:=Z_ cd;have cF:=Z_ cf;have c6:=Z_ bR;have e6:W0.cell? ⟨w,0,b_⟩=c_ (e_ d_ st.aa)/\W0.cell? ⟨w,1,b_⟩=c_ (a_ A st.files.length c):=by
  have j:=r_ w (f_ #[e_ d_ st.aa,a_ A st.files.length c] 33);have b2:=ah (w.alloc (f_ #[e_ d_ st.aa,a_ A st.files.length c] 33)) (f_ #[e_ d_ 0,a_ b_ 0 0,e_ d_ 0,a_ b_ 0 0,a_ b_ 0 0,a_ b_ 0 0] 47);have e7:=(b2.block w (by simp)).trans j;rw[M];simp[E_,e7]
 obtain⟨x0,x1⟩:=e6;rw[M]at x0 x1;clear hP hr hS h hl hd J cx cd cf bR hp;go_enter Tryz.func16,Tryz.ntmps16;go_wp2_with fail;rw[<-M];rw[<-M]at x0 x1;clear M x0 x1;refine cg.o.mono ?_;intro e D ho;obtain⟨A1,n1,c1,gen,V,X,Y,Z,nr,cr,rfl,c7,c8,bx⟩:=ho.both;have ad:=Z_ (si.start (pw:=r.1.aa) (gen:=gen) (fv:=a_ A1 n1 c1) (bv:=a_ V X Y) (rv:=a_ Z nr cr) e5.o cF.o c6.o c8.o);obtain⟨W2,O⟩:=N_ (((D.alloc (f_ #[e_ d_ r.1.aa,a_ A1 n1 c1,e_ d_ gen,a_ V X Y,a_ Z nr cr] 44)).alloc (f_ #[e_ d_ r.1.aa,a_ A1 n1 c1,e_ d_ gen,a_ V X Y,a_ Z nr cr,a_ b_ 0 0] 47)));rw[<-O]at ad;have g5:=c8.o.size;have cf:=cF.o;have a2:n_ D D W2:=by rw[O];exact(B_.alloc L_ _).alloc (by simp) _
 have e8:W2.heap.size=D.heap.size+2:=by rw[O];simp
 have b0:x_ (aA (λb=>S b\/(w.heap.size+2<=b/\b<D.heap.size)) W2 (a_ A1 n1 c1) r.1.files):=Z_ (aA.ae c7.o λb j=>by
  rcases j with j|j
  ·exact⟨.inl j,a2.block b (by have:=HS.o b j;omega)⟩
  exact⟨.inr ⟨by omega,j.2⟩,a2.block b j.2⟩)
 have b1:=Z_ a2;have c9:=Z_ e8;clear ho a2 cg c7;have b3:=Z_ bx;cases bb:r.2 with
 |error n=>
  have g6:(n !=0)=true:=by have:=cE.o n bb;simpa using this
  obtain⟨Wf,bg,⟨f0,f1,f2,f3,f4,f5⟩,t⟩:=ad.o.ret;have HE:x_ (P (k_ (J_ #[JI #[e_ d_ r.1.aa,a_ A1 n1 c1,e_ d_ gen,a_ V X Y,a_ Z nr cr,a_ b_ 0 0],e_ d_ n])) Wf):=Z_ (by
   rw[cB.o];refine xr HS.o ad.o t (aA.ae b0.o λb j=>⟨j.imp id (λh=>⟨h.1,by omega⟩),rfl⟩) ?_;unfold qp;rw[bb])
  obtain⟨y0,y1,y2,y3,y4,y5⟩:=ad.o.cK;obtain⟨⟨s0,s1,s2,s3,s4,s5⟩,q0,q1,q2,q3,q4,q5⟩:=ad.o.gP;rw[O]at y0 y1 y2 y3 y4 y5 s0 s1 s2 s3 s4 s5 q0 q1 q2 q3 q4 q5;clear t bx b3;dsimp only[yW];go_wp2;rw[<-O,<-bg];refine C_ (v:=J_ #[JI #[e_ d_ r.1.aa,a_ A1 n1 c1,e_ d_ gen,a_ V X Y,a_ Z nr cr,a_ b_ 0 0],e_ d_ n]) (by simp[results,Tryz.results16,go_sem,f0,f1,f2,f3,f4,f5]) rfl ?_;exact HE.o
 |ok x=>
  have df:=bx.o;rw[bb]at df;obtain⟨b5,dv,eb⟩:=df;have J:=e4.o x bb;have bj:al (λb=>w.heap.size+2<=b/\b<D.heap.size) W2 (a_ V X Y) x.2.1:=dv.ae λb j=>⟨⟨by omega,j.2⟩,b1.o.block b j.2⟩
  have bk:al (λb=>w.heap.size+2<=b/\b<D.heap.size) W2 (a_ Z nr cr) x.2.2:=eb.ae λb j=>⟨⟨by omega,j.2⟩,b1.o.block b j.2⟩
  have ch:=Z_ (uO r.1.aa gen A1 V Z n1 c1 X Y nr cr x.2.1 x.2.2 W2 (bj.sub λb j=>by have:=j.2;omega) (bk.sub λb j=>by have:=j.2;omega) O_ O_ (λl hl=>J.2 l (Mg _ hl)) (λl hl=>J.2 l (Le _ hl)));obtain⟨ls,bm⟩:=N_ (x.2.1++x.2.2);rw[<-bm]at ch;have ec:ls.length<=100000:=by rw[bm,p_];exact J.1
  have hle:∀l∈ls,l.length<=1000000:=by rw[bm];exact J.2
  have ee:=Z_ b5;have e9:=Z_ bj;have fb:=Z_ bk;have eg:=Z_ bm;have fi:=Z_ ec;have fr:=Z_ hle;obtain⟨y0,y1,y2,y3,y4⟩:=ad.o.Gq;rw[O]at y0 y1 y2 y3 y4;clear b5 dv eb J bj bk bm ec hle bx b3;dsimp only[yW];go_wp2_with fail;rw[<-O];clear O y0 y1 y2 y3 y4;refine ch.o.mono ?_;rintro e w3 ⟨u3,rfl,ak,bB⟩;have g7:=bB.size;obtain⟨A3,c3,rfl,fz,gi,-⟩:=(ak.sub (S':=(·<w3.heap.size)) λb j=>j.2).open_;have ck:x_ (∀W,Kept (·=D.heap.size+1) w3 W->al (·<W.heap.size) W (a_ A3 ls.length c3) ls):=Z_ λW hk=>ak.ae λb j=>⟨by have:=hk.size;omega,hk.block b j.2 O_⟩
  have gn:x_ (IL w w3 D r.1.aa gen (a_ A1 n1 c1) (a_ V X Y) (a_ Z nr cr) ls 0 w3):=Z_ ⟨⟨[],b_,0,rfl,ad.o.go bB,aS.nil _ _ _ _ (Km _)⟩,Kept.refl _ _⟩;have b6:x_ (∀W,Kept (·=D.heap.size+1) w3 W->Kept (·=D.heap.size+1) W2 W):=Z_ λW hk=>(Kept.ar bB).trans' hk
  have gp:x_ (D.heap.size+2<=w3.heap.size):=Z_ O_;clear ak bB fz gi ch;go_wp2
  go_loopw [8] (λiv W=>∃k:Nat,k<=ls.length/\iv=e_ d_ k/\x_ (IL w w3 D r.1.aa gen (a_ A1 n1 c1) (a_ V X Y) (a_ Z nr cr) ls k W)) (λiv _=>ls.length - (A_ iv).toNat)
  case atStart=>exact⟨0,by omega,rfl,gn⟩
  obtain⟨k,hk,rfl,HI⟩:=hrel;obtain⟨es,Al,cl,I,eo,ev⟩:=HI.o.ex;have U:=Z_ I;have G:=Z_ eo;have bN:=Z_ ev;have g8:=HI.o.kept.size;have g4:=gp.o;have ba:x_ (∀W Wf er,si w D r.1.aa gen (a_ A1 n1 c1) (a_ V X Y) (a_ Z nr cr) (a_ Al es.length cl) W->Kept (·=D.heap.size+1) w3 W->Kept (·=w.heap.size+1) W Wf->qp w Wf r.2 gen (a_ V X Y) (a_ Z nr cr) Al es.length cl er->
    P (k_ (J_ #[JI #[e_ d_ r.1.aa,a_ A1 n1 c1,e_ d_ gen,a_ V X Y,a_ Z nr cr,a_ Al es.length cl],e_ d_ er])) Wf):=Z_ λW Wf er h1 h2 h3 h4=>by
   rw[cB.o];refine xr HS.o h1 h3 (aA.ae b0.o λb j=>?_) h4;have av:=b6.o W h2;have hz:=av.size;have hw:=c9.o;have gv:=h1.lo;refine⟨j.imp id (λh=>⟨h.1,by omega⟩),?_⟩;rcases j with j|j
   ·have:=HS.o b j
    exact av.block b O_ O_
   exact av.block b O_ O_
  clear I eo ev;by_cases bn:k<ls.length
  ·obtain⟨A',c',e,_,_,HR⟩:=(ck.o wr HI.o.kept).open_
   injection e with eA _ eC;subst eA eC;obtain⟨b,off,Au,cu,rfl,j,e0,cm⟩:=HR.o wr B_ k bn;obtain⟨L,hL⟩:=N_ (ls.getD k []);rw[<-hL]at e0 cm;have gy:L.length<=1000000:=by
    rw[hL,s_,w_ bn];exact fr.o _ (JB bn)
   have e1:es.length<=100000:=by
    have h1:=ou _ _ _ U.o;have:=fi.o;rw[JN]at h1;simp at h1;omega
   have bd:=JG wr wr;have HD:x_ (n_ wr wr wr.drew):=Z_ ⟨bd.os,bd.tape,bd.output,bd.size,bd.block⟩;have e2:=Z_ (BZ es L (a_ Al es.length cl) _ wr.drew (λg=>w3.heap.size<=g/\g<wr.heap.size) (λg hg=>hg.2) (bN.o.ae λg hg=>⟨hg,rfl⟩) (cm.below HD.o) e1 gy);clear bd;obtain⟨z0,z1,z2,z3,z4,z5⟩:=G.o.cK;have gz:D.heap.size+1<wr.heap.size:=by omega
   have cp:x_ (∀W':j_,n_ wr wr W'->W'.cell? ⟨D+1,5,b_⟩=c_ (a_ Al es.length cl)/\W'.cell? ⟨b,off+k,b_⟩=c_ (a_ Au L.length cu)):=Z_ λW' h=>⟨(h.cell (p:=⟨_,_,b_⟩) gz).trans z5,(h.cell (p:=⟨_,_,b_⟩) j).trans e0⟩
   have HL:=Z_ hL;obtain⟨en,ct⟩:=N_ (es.length);rw[<-ct]at G bN e2 cp ba z5;have ha:=Z_ ct;generalize L.length=Ln at*;clear cm hL HR ct e1;go_wp2_with fail
   go_region_held (λW':j_=>W'.cell? ⟨D+1,5,b_⟩=c_ (a_ Al en cl)/\W'.cell? ⟨b,off+k,b_⟩=c_ (a_ Au Ln cu))
    (first|exact cp.o _ HD.o|exact cp.o _ (by assumption)) ((go_at_call 58;refine e2.o.mono ?_;rintro e w4 ⟨cv,A4,n4,c4,hf,rfl,bo,a1⟩;have bp:=HD.o.trans (cv.mono HD.o.size)))
   have K:=G.o.go bp;have bO:Kept (·=D.heap.size+1) w3 w4:=HI.o.kept.trans' (Kept.ar bp);have hh:=bp.size;cases bf:cL es L with
   |none=>
    have g0:=bo bf;subst g0;obtain⟨Wf,bg,⟨f0,f1,f2,f3,f4,f5⟩,t⟩:=K.ret;have HE:=Z_ (ba.o w4 Wf 200 K bO t (by
     unfold qp;rw[bb];simp only;rw[<-eg.o,pA bn U.o (by rw[<-HL.o];exact bf)];trivial))
    obtain⟨y0,y1,y2,y3,y4,y5⟩:=K.cK;obtain⟨⟨s0,s1,s2,s3,s4,s5⟩,q0,q1,q2,q3,q4,q5⟩:=K.gP;clear t K bO bo a1 cv bp bf z0 z1 z2 z3 z4 z5;go_wp2;rw[<-bg];refine C_ (v:=J_ #[JI #[e_ d_ r.1.aa,a_ A1 n1 c1,e_ d_ gen,a_ V X Y,a_ Z nr cr,a_ Al en cl],e_ d_ 200]) (by simp[results,Tryz.results16,go_sem,f0,f1,f2,f3,f4,f5]) rfl ?_;exact HE.o
   |some ys=>
    obtain⟨rfl,rfl,cc⟩:=a1 ys bf;obtain⟨e3,bt⟩:=K.xA (a_ A4 ys.length c4);have g1:=bt.size;have g2:x_ (IL w w3 D r.1.aa gen (a_ A1 n1 c1) (a_ V X Y) (a_ Z nr cr) ls (k+1) (w4.setCell ⟨D+1,5,b_⟩ (a_ A4 ys.length c4))):=Z_ ⟨⟨ys,A4,c4,kP bn U.o (by rw[<-HL.o];exact bf),e3,cc.ae λb j=>by
     have hd:wr.drew.heap.size=wr.heap.size:=rfl;rcases j with j|j
     ·exact⟨⟨j.1,by omega⟩,bt.block b O_ O_⟩
     exact⟨⟨by omega,by omega⟩,bt.block b j.2 O_⟩⟩,bO.trans' bt⟩
    have q5:=K.iZ;obtain⟨y0,y1,y2,y3,y4,y5⟩:=K.cK;generalize ys.length=yn at*;clear K bO e3 bt g1 cc bo a1 cv bp bf z0 z1 z2 z3 z4 z5 y0 y1 y2 y3 y4;go_wp2;go_roundw
    case rel=>exact⟨k+1,by omega,by go_num,g2⟩
    simp[A_];omega
  have g3:k=ls.length:=by omega
  subst g3;have I:=U.o;rw[JO]at I;obtain⟨Wf,bg,⟨f0,f1,f2,f3,f4,f5⟩,t⟩:=G.o.ret;have HE:=Z_ (ba.o wr Wf 0 G.o HI.o.kept t (by
   unfold qp;rw[bb];simp only;rw[<-eg.o,I];have av:=b6.o wr HI.o.kept;have hz:=av.size;have gv:=G.o.lo;have hq:=G.o.size;have ht:=t.size;have hv:=c9.o;refine⟨trivial,ee.o,e9.o.ae λb j=>⟨⟨by omega,by omega⟩,?_⟩,fb.o.ae λb j=>⟨⟨by omega,by omega⟩,?_⟩,rfl,bN.o.ae λb j=>⟨⟨by omega,by omega⟩,t.block b j.2 O_⟩⟩
   ·exact(t.block b O_ O_).trans (av.block b O_ O_)
   exact(t.block b O_ O_).trans (av.block b O_ O_)))
  obtain⟨y0,y1,y2,y3,y4,y5⟩:=G.o.cK;obtain⟨⟨s0,s1,s2,s3,s4,s5⟩,q0,q1,q2,q3,q4,q5⟩:=G.o.gP;generalize es.length=en at*;clear t I HI bN G U ba;go_wp2;rw[<-bg];refine C_ (v:=J_ #[JI #[e_ d_ r.1.aa,a_ A1 n1 c1,e_ d_ gen,a_ V X Y,a_ Z nr cr,a_ Al en cl],e_ d_ 0]) (by simp[results,Tryz.results16,go_sem,f0,f1,f2,f3,f4,f5]) rfl ?_;exact HE.o
