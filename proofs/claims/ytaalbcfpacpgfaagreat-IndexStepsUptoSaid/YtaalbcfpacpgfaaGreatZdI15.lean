import Derived.Test.YtaalbcfpacpgfaaGreatZdI8
import Derived.Test.YtaalbcfpacpgfaaGreatZdJF
set_option linter.all false
set_option maxHeartbeats 16000000
set_option maxRecDepth 100000
open Bool renaming false->o_
open Go renaming Calls->H_,Ending->KS,Value->m_,World->j_,maxLen->JT
open Go.Ending renaming returned->k_
open Go.IntKind renaming i64->d_,u8->KD
open Go.Obj renaming cells->f_
open Go.Proofs.Tryz renaming prog->h_
open Go.RowKit renaming Below->n_,Hid->x_,intOf->A_,wrap64->LJ
open Go.Value renaming agg->JI,bool->u_,int->e_,pointer->i_,slice->a_,string->g_,tuple->J_
open Go.World renaming cell?->E_
open Option renaming none->b_,some->c_
open Or renaming inl->Ke
namespace Go.Proofs.YtaalbcfpacpgfaaGreat
open Go.RowKit Go.Lib Go.Vfs Go.Par Go.Typ Go.Shelf Go.Ix
def FT:En:=⟨⟨#[]⟩,0,[]⟩
def bZ(es:List En)(s:List UInt8):En:=match aj aB s es with|some e=>e|none=>FT
def nS(es:List En)(s:List UInt8)(w:j_)(e:KS)(w':j_):Prop:=
 ∃A c,e=k_ (J_ #[eV (bZ es s) A c,u_ (aj aB s es).isSome])/\bA (λg=>w.heap.size<=g/\g<w'.heap.size) w' (a_ A (bZ es s).aI.length c) (bZ es s).aI/\n_ w.heap.size w w'
def sM(es:List En)(s:List UInt8)(w:j_)(e:KS)(w':j_):Prop:=
 ∃A c,e=k_ (J_ #[eV (bZ es s) A c,u_ (aj aB s es).isSome])/\iG (λg=>w.heap.size<=g/\g<w'.heap.size) w' (a_ A (bZ es s).aI.length c) (bZ es s).aI/\n_ w.heap.size w w'
theorem AX{w:j_}{px pj mb:Nat}{xs:List gY}{S:Nat->Prop}(h:dN w px pj mb xs S)(s:List UInt8):bW S w (Cz xs s) (bZ (xs.map (·.e)) s):=by
 unfold bZ Cz;rw[oe];cases j:aj dA s xs with
 |none=>exact⟨b_,0,rfl,by decide,bA.nil _ _ _ _ (Km _)⟩
 |some x=>exact h.yp x (aV j).1
theorem Bp{es:List En}(h:Ix.Good es)(s:List UInt8):(∀y∈(bZ es s).aI,eU y.ty)/\(bZ es s).aI.length<=1000:=by
 unfold bZ;cases D:aj aB s es with
 |none=>exact⟨λy t=>(by cases t),Km _⟩
 |some x=>
  have j:=ia (h.ok x (aV D).1);exact⟨λy t=>eU.m8 (by have:=(cU.1 (fp j y t).2.1).1;omega),eD j⟩
theorem uu(w:j_)(px pj mb:Nat)(xs:List gY)(S:Nat->Prop)(h:dN w px pj mb xs S)(hS:∀k,S k->k<w.heap.size)(ak:Ix.Good (xs.map (·.e)))(s:ByteArray)(hs:s.size<=9223372036854775807):
  H_ h_ 22 #[i_ (c_ ⟨px,0,b_⟩),g_ s] w (sM (xs.map (·.e)) s.data.toList w):=by
 obtain⟨E,hE⟩:=N_ (bZ (xs.map (·.e)) s.data.toList);obtain⟨P,hP⟩:=N_ (sM (xs.map (·.e)) s.data.toList w);have bj:=Z_ hP;rw[<-hP];clear hP;have Y:=h.lt;have av:=AX h s.data.toList;rw[<-hE]at av;obtain⟨A,c,hv,bk,hex⟩:=av;unfold eV at hv;have D:n_ w w (w.alloc (f_ #[g_ ⟨#[]⟩,e_ d_ 0,a_ b_ 0 0] 55)):=B_.alloc L_ _;have G:dN (w.alloc (f_ #[g_ ⟨#[]⟩,e_ d_ 0,a_ b_ 0 0] 55)) px pj mb xs S:=h.ae (D.block _ Y.1) (D.block _ Y.2) (λb hb=>D.block b (hS b hb));have I:=G.FM s hs;have a1:=oe s.data.toList xs;obtain⟨ok,J⟩:=N_ ((aj dA s.data.toList xs).isSome);rw[hv,<-J]at I;have a2:x_ ((aj aB s.data.toList (xs.map (·.e))).isSome=ok):=Z_ (by rw[a1,Option.isSome_map,J]);have p1:(w.alloc (f_ #[g_ ⟨#[]⟩,e_ d_ 0,a_ b_ 0 0] 55)).cell? ⟨px,1,b_⟩=c_ (.map (c_ mb)):=by simp[E_,G.head]
 obtain⟨W2,j⟩:=N_ ((w.alloc (f_ #[g_ ⟨#[]⟩,e_ d_ 0,a_ b_ 0 0] 55)).alloc (f_ #[g_ E.uri,e_ d_ E.bu,a_ A E.aI.length c] 55));have Z:n_ w w W2:=by rw[j];exact D.alloc (by simp) _
 have ba:W2.heap.size=w.heap.size+2:=by rw[j];simp
 have U:W2.heap[w.heap.size]?=c_ (f_ #[g_ ⟨#[]⟩,e_ d_ 0,a_ b_ 0 0] 55 (0,0)):=by
  rw[j,z_ _ _ _ (by simp)];exact r_ _ _
 have V:W2.heap[w.heap.size+1]?=c_ (f_ #[g_ E.uri,e_ d_ E.bu,a_ A E.aI.length c] 55 (0,0)):=by
  rw[j];have:=r_ (w.alloc (f_ #[g_ ⟨#[]⟩,e_ d_ 0,a_ b_ 0 0] 55)) (f_ #[g_ E.uri,e_ d_ E.bu,a_ A E.aI.length c] 55);simpa using this
 have K:=Bp ak s.data.toList;rw[<-hE]at K;have bb:=Z_ (je E K.1 (JI #[g_ E.uri,e_ d_ E.bu,a_ A E.aI.length c]) W2 ⟨A,c,rfl,bk,hex.ae λg hg=>⟨by have:=hS g hg;omega,Z.block g (hS g hg)⟩⟩ (by have:=K.2;omega));have bm:=Z_ Z;have M:=Z_ ba;have bd:=Z_ U;have HE:=Z_ hE;have y:=aR V;rw[j]at y;obtain⟨y0,y1,y2⟩:=y;clear h hS ak Y hv hex D G a1 J Z ba U V K hE;go_enter Tryz.func22,Tryz.ntmps22;go_wp2_with fail;rw[<-j];clear j y0 y1 y2 I p1;refine bb.o.mono ?_;rintro e w3 ⟨A3,c3,rfl,bf,O⟩;have bo:=O.size;have t:=(O.block _ (by have:=M.o;omega)).trans bd.o;obtain⟨Wf,bn,bg,X,ad⟩:=ju (g_ E.uri) (e_ d_ E.bu) (a_ A3 E.aI.length c3) t (bm.o.trans (O.mono (by have:=M.o;omega)));obtain⟨y0,y1,y2⟩:=aR t;obtain⟨q0,q1,q2⟩:=au t;obtain⟨f0,f1,f2⟩:=aR bg;have HF:x_ (P (k_ (J_ #[JI #[g_ E.uri,e_ d_ E.bu,a_ A3 E.aI.length c3],u_ ok])) Wf):=Z_ (by
  rw[bj.o];refine⟨A3,c3,?_,?_,X⟩
  ·rw[a2.o,<-HE.o];rfl
  rw[<-HE.o];exact iG.ae bf λg hg=>⟨by have:=M.o;have:=ad.size;omega,ad.block g hg.2 (by have:=M.o;omega)⟩)
 clear bf O t bg X ad bb;unfold eV;go_wp2;rw[<-bn];refine C_ (v:=J_ #[JI #[g_ E.uri,e_ d_ E.bu,a_ A3 E.aI.length c3],u_ ok]) (by simp[results,Tryz.results22,go_sem,f0,f1,f2]) rfl ?_;exact HF.o
theorem yx(w:j_)(px pj mb:Nat)(xs:List gY)(S:Nat->Prop)(h:dN w px pj mb xs S)(hS:∀k,S k->k<w.heap.size)(j:Ix.Good (xs.map (·.e)))(s:ByteArray)(hs:s.size<=9223372036854775807):
  H_ h_ 22 #[i_ (c_ ⟨px,0,b_⟩),g_ s] w (nS (xs.map (·.e)) s.data.toList w):=
 (uu w px pj mb xs S h hS j s hs).mono (by rintro e w' ⟨A,c,rfl,h,t⟩;exact⟨A,c,rfl,iG.at_ h,t⟩)
theorem uw(w:j_)(pj:Nat)(A:Option Addr)(n c:Nat)(hn:65536<n)(j:n<=9223372036854775807):H_ h_ 11 #[i_ (c_ ⟨pj,0,b_⟩),a_ A n c] w λe w'=>e=k_ (e_ d_ 20)/\w'=w:=by
 have g:(65536:Int)<(n:Int):=by omega
 go_enter Tryz.func11,Tryz.ntmps11;go_wp2;go_ret;exact⟨rfl,rfl⟩
def cW(w:j_)(px p:Nat)(F H S:Nat->Prop)(st:St)(gen:Nat)(base log:List (List UInt8))(es:List En)(w':j_):Prop:=
 ∃F' H' S',XF w' px p st gen base log es F' H' S'/\Kept (λk=>F k\/H k) w w'/\aH w F F'/\aH w H H'/\aH w S S'
section
variable{w w':j_}{px p gen:Nat}{st:St}{base log:List (List UInt8)}{es:List En}{F H S:Nat->Prop}
theorem XF.lt(h:XF w px p st gen base log es F H S):∀k,(F k\/H k\/S k)->k<w.heap.size:=by
 obtain⟨pj,mb,xs,G,hj,hi,he,t,hS,hn⟩:=h;intro k j;rcases j with j|j|j
 ·exact hj.fs.lt k j
 ·rcases(t k).1 j with h|h|h
  ·exact hj.js.lt k h
  ·rw[h];exact hi.lt.1
  rw[h];exact hi.lt.2
 exact(hS k j).1
theorem XF.below(h:XF w px p st gen base log es F H S)(j:n_ w w w'):XF w' px p st gen base log es F H S:=by
 obtain⟨pj,mb,xs,G,hj,hi,he,D,hS,hn⟩:=h;exact⟨pj,mb,xs,G,hj.below j,hi.ae (j.block _ hi.lt.1) (j.block _ hi.lt.2) (λb t=>j.block b (hS b t).1),he,D,λk t=>⟨by have:=(hS k t).1;have:=j.size;omega,(hS k t).2⟩,hn⟩
theorem cW.same(h:XF w px p st gen base log es F H S)(j:n_ w w w'):cW w px p F H S st gen base log es w':=
 ⟨F,H,S,h.below j,Kept.ar j,aH.refl _ _,aH.refl _ _,aH.refl _ _⟩
end
variable{w w3:j_}{px p pj mb gen:Nat}{F H S:Nat->Prop}{log:List (List UInt8)}
theorem cW.iN{O:j_}{gen':Nat}{st':St}{base' log':List (List UInt8)}{G:Nat->Prop}{xs:List gY}(D:n_ w w O)(hi:dN O px pj mb xs S)
  (I:∀k,H k↔G k\/k=px\/k=mb) (hS:∀k,S k->k<w.heap.size/\¬F k/\¬H k) (hn:¬F px/\¬F mb/\¬G px/\¬G mb) (X:px<w.heap.size/\mb<w.heap.size) (hp:dO O pj p F G st' gen' base' log' w3):
  cW w px p F H S st' gen' base' log' (xs.map (·.e)) w3/\dN w3 px pj mb xs S:=by
 obtain⟨F',G',h1,h2,K,M⟩:=hp;have Y:=D.size;have U:=h2.size;have J:dN w3 px pj mb xs S:=hi.ae (h2.block _ O_ (λh=>h.elim hn.1 hn.2.2.1)) (h2.block _ O_ (λh=>h.elim hn.2.1 hn.2.2.2)) (λb D=>h2.block b (by have:=(hS b D).1;omega) (λh=>h.elim (hS b D).2.1 (λt=>(hS b D).2.2 ((I b).2 (.inl t)))));refine⟨⟨F',λk=>G' k\/k=px\/k=mb,S,⟨pj,mb,xs,G',h1,J,rfl,λk=>Iff.rfl,λk j=>⟨by have:=(hS k j).1;omega,λV=>?_,λt=>?_⟩,?_,?_,?_,?_⟩,?_,λk j=>?_,λk j=>?_,aH.refl _ _⟩,J⟩
 ·rcases K k V with h|h
  ·exact(hS k j).2.1 h
  have:=(hS k j).1;omega
 ·rcases t with t|t
  ·rcases M k t with h|h
   ·exact(hS k j).2.2 ((I k).2 (.inl h))
   have:=(hS k j).1;omega
  exact(hS k j).2.2 ((I k).2 (.inr t))
 ·intro h;rcases K _ h with h|h
  ·exact hn.1 h
  omega
 ·intro h;rcases K _ h with h|h
  ·exact hn.2.1 h
  omega
 ·intro h;rcases M _ h with h|h
  ·exact hn.2.2.1 h
  omega
 ·intro h;rcases M _ h with h|h
  ·exact hn.2.2.2 h
  omega
 ·exact(Kept.ar D).trans' ((h2.mono λk _ h=>h.imp id λt=>(I k).2 (.inl t)))
 ·rcases K k j with h|h
  ·exact .inl h
  right;omega
 rcases j with j|j
 ·rcases M k j with h|h
  ·exact .inl ((I k).2 (.inl h))
  right;omega
 exact .inl ((I k).2 (.inr j))
theorem cW.Eo{J:j_}{st:St}{base:List (List UInt8)}{F' G' K:Nat->Prop}{D:List gY}(hj:JF w3 pj p st gen base log F' G')(j:Kept (λk=>F k\/H k) w w3)(O:aH w F F')(U:∀k,G' k->H k\/w.heap.size<=k)
  (hn:¬F' px/\¬F' mb/\¬G' px/\¬G' mb) (G:H px/\H mb) (V:dN J px pj mb D K) (I:Kept (·=mb) w3 J) (t:∀k,K k->(S k\/w.heap.size<=k)/\k<J.heap.size/\¬F' k/\¬G' k/\k≠px/\k≠mb):
  cW w px p F H S st gen base log (D.map (·.e)) J:=by
 have X:=j.size;have M:JF J pj p st gen base log F' G':=⟨hj.fs.ae λk h=>I.block k (hj.fs.lt k h) (λe=>hn.2.1 (e▸h)),hj.js.block λk h=>I.block k (hj.js.lt k h) (λe=>hn.2.2.2 (e▸h)),hj.apart⟩;refine⟨F',λk=>G' k\/k=px\/k=mb,K,⟨pj,mb,D,G',M,V,rfl,λk=>Iff.rfl,λk j=>⟨(t k j).2.1,(t k j).2.2.1,λh=>?_⟩,hn⟩,?_,O,λk j=>?_,λk j=>(t k j).1⟩
 ·rcases h with h|h|h
  ·exact(t k j).2.2.2.1 h
  ·exact(t k j).2.2.2.2.1 h
  exact(t k j).2.2.2.2.2 h
 ·exact j.trans' (I.mono λk _ h=>by rw[h];exact .inr G.2)
 rcases j with j|j|j
 ·exact U k j
 ·rw[j];exact .inl G.1
 rw[j];exact .inl G.2
def fQ(st:St)(gen:Nat)(log:List (List UInt8))(es:List En)(e:En):St×Int×List (List UInt8)×List En:=
 if gF e then(if 65536<(aN e).length then(st,20,log,es)else((aQ st gen log (aN e)).1,(aQ st gen log (aN e)).2.1,(aQ st gen log (aN e)).2.2,if(aQ st gen log (aN e)).2.1=0 then aq aB e es else es))
 else(st,200,log,es)
theorem rG{st:St}{es:List En}{e:En}(h:gF e=o_):fQ st gen log es e=(st,200,log,es):=by unfold fQ;rw[h];rfl
theorem oo{st:St}{es:List En}{e:En}(h:gF e=true)(j:65536<(aN e).length):fQ st gen log es e=(st,20,log,es):=by unfold fQ;rw[h,G_ rfl,G_ j]
theorem nh{st:St}{es:List En}{e:En}(h:gF e=true)(j:¬65536<(aN e).length):fQ st gen log es e=((aQ st gen log (aN e)).1,(aQ st gen log (aN e)).2.1,(aQ st gen log (aN e)).2.2,if(aQ st gen log (aN e)).2.1=0 then aq aB e es else es):=by unfold fQ;rw[h,G_ rfl,I_ j]
theorem ph(w:j_)(px p gen:Nat)(st:St)(base log:List (List UInt8))(es:List En)(F H S:Nat->Prop)(h:XF w px p st gen base log es F H S)(v:m_)(E:En)(hx:bW (λg=>g<w.heap.size/\¬F g/\¬H g) w v E)
  (hm:(aN E).length<=65536->Modest st (12+(aN E).length)) (cF:log.length<=1000000) (cg:es.length<=1000000):
  H_ h_ 21 #[i_ (c_ ⟨px,0,b_⟩),v] w λe w'=>e=k_ (.int d_ (fQ st gen log es E).2.1)/\cW w px p F H S (fQ st gen log es E).1 gen base (fQ st gen log es E).2.2.1 (fQ st gen log es E).2.2.2 w':=by
 have ch:=Z_ h;obtain⟨pj,mb,xs,G,hj,hi,he,hH,hS,hn⟩:=h;subst he;obtain⟨P,hP⟩:∃P:KS->j_->Prop,P=λe w'=>e=k_ (.int d_ (fQ st gen log (xs.map (·.e)) E).2.1)/\cW w px p F H S (fQ st gen log (xs.map (·.e)) E).1 gen base (fQ st gen log (xs.map (·.e)) E).2.2.1 (fQ st gen log (xs.map (·.e)) E).2.2.2 w':=⟨_,rfl⟩
 have bn:=Z_ hP;rw[<-hP];obtain⟨A,c,rfl,ck,hex⟩:=hx;have ak:=hi.lt;obtain⟨W1,av⟩:=N_ (w.alloc (f_ #[.string E.uri,.int d_ E.bu,a_ A E.aI.length c] 55));have b1:n_ w w W1:=by rw[av];exact B_.alloc L_ _
 have b2:W1.heap.size=w.heap.size+1:=by rw[av];simp
 have b3:W1.heap[w.heap.size]?=c_ (f_ #[.string E.uri,.int d_ E.bu,a_ A E.aI.length c] 55 (0,0)):=by rw[av];exact r_ _ _
 have c6:=Z_ (j7 E (JI #[.string E.uri,.int d_ E.bu,a_ A E.aI.length c]) W1 ⟨A,c,rfl,ck,hex.ae λg hg=>⟨by have:=hg.1;show g<W1;omega,b1.block g hg.1⟩⟩);have c7:=Z_ b1;have c8:=Z_ b2;have c9:=Z_ b3;have df:=Z_ hex;have HM:=Z_ hm;have HJ:=Z_ hj;have HI:=Z_ hi;have HH:=Z_ hH;have HS:=Z_ hS;have HN:=Z_ hn;have HL:=Z_ ak;have y:=aR b3;rw[av]at y;obtain⟨y0,y1,y2⟩:=y;clear hP hm hj hi hH hS hn ck hex ak b1 b2 b3;unfold eV;go_enter Tryz.func21,Tryz.ntmps21;go_wp2_with fail;rw[<-av];clear av y0 y1 y2;refine c6.o.mono ?_;rintro e w2 ⟨v2,rfl,a1,O,b5⟩;have e1:=a1.size;have b2:=c8.o;have D:n_ w w w2:=c7.o.trans (a1.mono O_);cases I:gF E with
 |false=>
  have HE:x_ (P (k_ (.int d_ 200)) w2):=Z_ (by
   rw[bn.o,rG I];exact⟨rfl,cW.same ch.o D⟩)
  clear O b5 a1 D;dsimp only[Bool.false_eq_true,if_false];go_wp2;exact HE.o
 |true=>
  have O:=O I;obtain⟨A2,c2,cl⟩:=O.form;rw[t_]at cl;subst cl;have dv:=Z_ I;have HU:x_ (E.uri.size<=64):=Z_ (eP I).2;have hl:=HL.o;have X:dN w2 px pj mb xs S:=HI.o.ae (D.block _ hl.1) (D.block _ hl.2) (λb t=>D.block b (HS.o b t).1);have p0:w2.cell? ⟨px,0,b_⟩=c_ (i_ (c_ ⟨pj,0,b_⟩)):=by simp[E_,X.head]
  have eb:=qS (ia I);have cm:(aN E).length<=200000000:=by
   have hu:=eX E.uri;have:=(eP I).2;unfold aN;simp only[p_,hu,bz,Jz,JP];omega
  by_cases J:65536<(aN E).length
  ·have b6:=Z_ (uw w2 pj A2 (aN E).length c2 J O_)
   have HE:x_ (P (k_ (.int d_ 20)) w2):=Z_ (by
    rw[bn.o,oo I J];exact⟨rfl,cW.same ch.o D⟩)
   clear O b5 a1 D I X;dsimp only[Ml];go_wp2_with fail;refine b6.o.mono ?_;rintro e w3 ⟨rfl,rfl⟩;go_wp2;exact HE.o
  have cp:(aN E).length<=65536:=by omega
  have bt:=HJ.o.below D;have b6:=Z_ (oU bt (a_ A2 (aN E).length c2) (aN E) (by
   have h1:=Own.jf O (F:=λk=>k<W1.heap.size) (λk t=>t);exact h1.ae λb hb=>⟨⟨hb.1,λhf=>hb.2 (by have:=HJ.o.fs.lt b hf;show b<W1;omega)⟩,rfl⟩) cp (HM.o cp) cF)
  have bo:=Z_ D;have cr:=Z_ X;have ct:=Z_ (nh (st:=st) (gen:=gen) (log:=log) (es:=xs.map (·.e)) I J);have bx:=(a1.block _ O_).trans c9.o;have cu:=Z_ bx;clear O b5 a1 D I X bt bx eb cm J;dsimp only[Ml];go_wp2_with fail;refine b6.o.mono ?_;rintro e w3 ⟨rfl,cb⟩;obtain⟨U,Y⟩:=cW.iN bo.o cr.o HH.o HS.o HN.o HL.o cb;obtain⟨r,hr⟩:=N_ ((aQ st gen log (aN E)).2.1);rw[<-hr];by_cases ba:r=0
  rotate_left
  ·have e2:(r !=0)=true:=by simpa using ba
   have HE:x_ (P (k_ (.int d_ r)) w3):=Z_ (by
    rw[bn.o,ct.o];simp only;rw[<-hr,I_ ba];exact⟨rfl,U⟩)
   clear U Y cb p0 hr;go_wp2;exact HE.o
  have ec:x_ ((aQ st gen log (aN E)).2.1=0):=Z_ (by rw[<-hr,ba]);rw[ba];clear hr ba r U;obtain⟨F3,G3,bp,bb,bd,bf⟩:=cb;have e3:=bo.o.size;have e4:=bb.size;have bg:=HN.o;have hl:=HL.o;have cv:x_ (px≠mb/\w.heap.size≠mb):=Z_ ⟨Y.pm,by omega⟩;have bB:¬(F w\/G w):=λh=>by
   rcases h with h|h
   ·have:=HJ.o.fs.lt _ h;omega
   have:=HJ.o.js.lt _ h;omega
  have Z:w3.heap[w.heap.size]?=c_ (f_ #[.string E.uri,.int d_ E.bu,a_ A E.aI.length c] 55 (0,0)):=(bb.block _ O_ bB).trans cu.o;have bj:x_ (px<w3.heap.size/\w.heap.size<w3.heap.size/\mb<w3.heap.size):=Z_ ⟨by omega,by omega,by omega⟩;have ee:x_ (∀k,S k->k<w3.heap.size/\k<w.heap.size):=Z_ λk t=>⟨by have:=(HS.o k t).1;omega,(HS.o k t).1⟩
  have ad:=Z_ Y;have cc:x_ (∀W':j_,W'.heap[px]?=w3.heap[px]?->W'.heap[w.heap.size]?=w3.heap[w.heap.size]?->W'.cell? ⟨px,1,b_⟩=c_ (.map (c_ mb))/\W'.cell? ⟨w,0,b_⟩=c_ (.string E.uri)/\W'.cell? ⟨w,1,b_⟩=c_ (.int d_ E.bu)/\W'.cell? ⟨w,2,b_⟩=c_ (a_ A E.aI.length c)):=Z_ λW' h1 h2=>⟨by simp[E_,h1,ad.o.head],(aR (h2.trans Z)).1,(aR (h2.trans Z)).2.1,(aR (h2.trans Z)).2.2⟩
  have V:=Z_ (cc.o w3.drew rfl rfl);have cd:=ia dv.o;have bN:bA (·<w3.drew.heap.size) w3.drew (a_ A E.aI.length c) E.aI:=df.o.ae λg hg=>by
   have h1:w2.heap[g]?=w.heap[g]?:=bo.o.block g hg.1;have h2:w3.heap[g]?=w2.heap[g]?:=bb.block g (by have:=hg.1;omega) (λh=>by
    rcases h with h|h
    ·exact hg.2.1 h
    exact hg.2.2 ((HH.o g).2 (.inl h)))
   exact⟨by have:=hg.1;show g<w3;omega,h2.trans h1⟩
  have eg:x_ (H_ h_ 61 #[JI #[.string E.uri,.int d_ E.bu,a_ A E.aI.length c]] w3.drew λe M=>∃A4 c4,e=k_ (JI #[.string E.uri,.int d_ E.bu,a_ A4 E.aI.length c4])/\bA (λg=>w3.heap.size<=g/\g<M.heap.size) M (a_ A4 E.aI.length c4) E.aI/\n_ w3 w3 M):=Z_ (by
   refine(wy E (λy hy=>eU.m8 (by have:=(cU.1 (fp cd y hy).2.1).1;omega)) (JI #[.string E.uri,.int d_ E.bu,a_ A E.aI.length c]) w3.drew ⟨A,c,rfl,by have:=HU.o;omega,bN⟩ (by have:=eD cd;omega)).mono ?_;rintro e M ⟨A4,c4,rfl,bk,j⟩;exact⟨A4,c4,rfl,bk,((JG _ w3).drew).trans j⟩)
  have e5:xs.length<=1000000:=by rw[KL]at cg;exact cg
  have cx:x_ (∀(M w5:j_) (x:gY),x.e=E->n_ w3 w3 M->dN w5 px pj mb (aq dA x xs) (λg=>S g\/(w3.heap.size<=g/\g<M.heap.size))->Kept (·=mb) M w5->w5.heap.size=M.heap.size->P (k_ (.int d_ 0)) w5):=Z_ λM w5 x en j eo a2 cB=>by
   have ev:=j.size;rw[bn.o,ct.o];simp only;rw[ec.o,G_ rfl];refine⟨rfl,?_⟩;have hm:=ti x xs;rw[en]at hm;rw[<-hm];refine cW.Eo (F':=F3) (G':=G3) (bp.below j) (((Kept.ar bo.o).trans' (bb.mono λk _ h=>h.imp id λhg=>(HH.o k).2 (.inl hg))).trans' ⟨j.os,j.tape,j.output,j.size,λk t _=>j.block k t⟩) (λk t=>(bd k t).imp id λh=>by omega) (λk t=>by
    rcases bf k t with h|h
    ·exact .inl ((HH.o k).2 (.inl h))
    right;omega) ⟨λh=>?_,λh=>?_,λh=>?_,λh=>?_⟩ ⟨(HH.o _).2 (.inr (.inl rfl)),(HH.o _).2 (.inr (.inr rfl))⟩ eo a2 (λk t=>?_)
   ·rcases bd _ h with h|h
    ·exact bg.1 h
    omega
   ·rcases bd _ h with h|h
    ·exact bg.2.1 h
    omega
   ·rcases bf _ h with h|h
    ·exact bg.2.2.1 h
    omega
   ·rcases bf _ h with h|h
    ·exact bg.2.2.2 h
    omega
   rcases t with t|t
   ·obtain⟨s1,s2,s3⟩:=HS.o k t
    have hh:=λh=>s3 ((HH.o k).2 h)
    refine⟨.inl t,by omega,λh=>?_,λh=>?_,λh=>hh (.inr (.inl h)),λh=>hh (.inr (.inr h))⟩
    ·rcases bd _ h with h|h
     ·exact s2 h
     omega
    rcases bf _ h with h|h
    ·exact hh (.inl h)
    omega
   exact⟨.inr O_,by omega,λh=>by have:=bp.fs.lt k h;omega,λh=>by have:=bp.js.lt k h;omega,by omega,by omega⟩
  clear bp bb bd bf Y Z bB bN cd p0 bg;go_wp2_with fail;refine KE (S:=(λw2:j_=>w2.cell? ⟨px,1,b_⟩=c_ (.map (c_ mb))/\w2.cell? ⟨w,0,b_⟩=c_ (.string E.uri)/\w2.cell? ⟨w,1,b_⟩=c_ (.int d_ E.bu)/\w2.cell? ⟨w,2,b_⟩=c_ (a_ A E.aI.length c))) K_ ?_;refine fx 0 25 (i_ (c_ ⟨px,0,b_⟩)) V.o ?_;refine fx 1 26 (i_ (c_ ⟨px,0,b_⟩)) V.o ?_;refine fx 2 27 (i_ (c_ ⟨px,1,b_⟩)) V.o ?_;refine fx 3 28 (.map (c_ mb)) V.o ?_;refine fx 4 29 (i_ (c_ ⟨w,0,b_⟩)) V.o ?_;refine fx 5 30 (.string E.uri) V.o ?_;refine fx 6 31 (JI #[.string E.uri,.int d_ E.bu,a_ A E.aI.length c]) V.o ?_;refine ag 7 λK hK=>?_
  go_simp;refine eg.o.mono ?_;rintro e M ⟨A4,c4,rfl,bk,j⟩;have e6:=Z_ bk;have bm:=Z_ j;have eA:=Z_ (cc.o M (bm.o.block _ bj.o.1) (bm.o.block _ bj.o.2.1));have ev:w3.heap.size<=M.heap.size:=j.size;obtain⟨VV,cf⟩:∃VV:m_,VV=JI #[.string E.uri,.int d_ E.bu,a_ A4 E.aI.length c4]:=⟨_,rfl⟩;have ak:=bj.o;have cE:=ee.o;have bO:dN M px pj mb xs (λg=>S g\/(w3.heap.size<=g/\g<M.heap.size)):=(ad.o.ae (j.block _ ak.1) (j.block _ ak.2.2) (λb hb=>j.block b (cE b hb).1)).sub (λb hb=>.inl hb) ⟨λt=>t.elim ad.o.np.1 (λh=>by have:=h.1;omega),λt=>t.elim ad.o.np.2 (λh=>by have:=h.1;omega)⟩;obtain⟨w5,bR,b0,a2,cB⟩:=bO.put O_ ⟨E,VV⟩ (by rw[cf];exact⟨A4,c4,rfl,(show E.uri.size<=_ by have:=HU.o;omega),bk.ae λg hg=>⟨.inr ⟨hg.1,hg.2⟩,rfl⟩⟩) (by show E.uri.size<=_;have:=HU.o;omega);have eC:=Z_ (cx.o M w5 ⟨E,VV⟩ rfl bm.o b0 a2 cB);have e0:=Z_ (cc.o w5 ((a2.block _ O_ cv.o.1).trans (bm.o.block _ bj.o.1)) ((a2.block _ O_ cv.o.2).trans (bm.o.block _ bj.o.2.1)));dsimp only at bR;rw[cf]at bR;clear cf bO b0 a2 bk j ak cE;refine kk hK eA.o ?_;refine ag 8 λK hK=>?_
  go_simp;refine kk hK e0.o ?_;refine J6 K_ ?_ _;go_wp2;exact eC.o
theorem tf(w:j_)(px p gen:Nat)(st:St)(base log:List (List UInt8))(es:List En)(F H S:Nat->Prop)(h:XF w px p st gen base log es F H S):H_ h_ 29 #[i_ (c_ ⟨px,0,b_⟩)] w λe w'=>e=k_ (e_ d_ (log.length:Nat))/\∃n,w'=w.drewN n:=by
 obtain⟨pj,mb,xs,G,hj,hi,-⟩:=h;have t:w.cell? ⟨px,0,b_⟩=c_ (i_ (c_ ⟨pj,0,b_⟩)):=by simp[E_,hi.head]
 have j:=Z_ (Dq hj);clear hj hi;go_enter Tryz.func29,Tryz.ntmps29;go_wp2_with fail;refine j.o.mono ?_;rintro e D ⟨rfl,n,rfl⟩;go_wp2;go_ret;exact⟨rfl,n,rfl⟩
structure XH(B:Nat)(w0 w:j_)(px p:Nat)(st:St)(gen:Nat)(base log:List (List UInt8))(es:List En)(F H S:Nat->Prop):Prop where
 xf:XF w px p st gen base log es F H S
 new:∀k,(F k\/H k)->B<=k
 below:n_ B w0 w
section
variable{B:Nat}{w0 w w':j_}{px p gen gen':Nat}{st st':St}{base log base' log':List (List UInt8)}{es es':List En}{F H S:Nat->Prop}
theorem XH.size(h:XH B w0 w px p st gen base log es F H S)(j:B<=w0):B<=w:=Kj j h.below.size
theorem XH.go(h:XH B w0 w px p st gen base log es F H S)(t:B<=w0)(j:n_ w w w'):XH B w0 w' px p st gen base log es F H S:=
 ⟨h.xf.below j,h.new,h.below.trans (j.mono (h.size t))⟩
theorem XH.op(h:XH B w0 w px p st gen base log es F H S)(I:B<=w0)(hp:cW w px p F H S st' gen' base' log' es' w'):∃F' t S',XH B w0 w' px p st' gen' base' log' es' F' t S'/\Kept (λk=>F k\/H k) w w'/\aH w F F'/\aH w H t/\aH w S S':=by
 obtain⟨F',t,S',h1,h2,D,G,J⟩:=hp;have hs:=h.size I;refine⟨F',t,S',⟨h1,λk j=>?_,h.below.trans (h2.below hs λk j=>h.new k j)⟩,h2,D,G,J⟩;rcases j with j|j
 ·rcases D k j with a|a
  ·exact h.new k (.inl a)
  omega
 rcases G k j with a|a
 ·exact h.new k (.inr a)
 omega
theorem XH.ix(h:XH B w0 w px p st gen base log es F H S):∃pj mb xs,dN w px pj mb xs S/\xs.map (·.e)=es/\∀k,S k->k<w.heap.size:=by
 obtain⟨pj,mb,xs,G,hj,hi,he,t,hS,hn⟩:=h.xf;exact⟨pj,mb,xs,hi,he,λk j=>(hS k j).1⟩
end
variable{B px p gen:Nat}{w0 w:j_}{base log:List (List UInt8)}{F H S:Nat->Prop}
theorem XH.entries{st:St}{es:List En}(h:XH B w0 w px p st gen base log es F H S)(j:Ix.Good es)(t:es.length<=100000):
  H_ h_ 18 #[i_ (c_ ⟨px,0,b_⟩)] w λe w'=>∃A c,e=k_ (a_ A es.length c)/\aS (λg=>w.heap.size<=g/\g<w'.heap.size) w' (a_ A es.length c) es/\n_ w w w':=by
 obtain⟨pj,mb,xs,hi,rfl,hS⟩:=h.ix;refine(vO w px pj mb xs S hi hS j (by simpa using t)).mono ?_;rintro e w' ⟨v,rfl,he,D⟩;obtain⟨A,c,rfl,-,-⟩:=he.form;exact⟨A,c,rfl,he,D⟩
theorem XH.find{st:St}{es:List En}(h:XH B w0 w px p st gen base log es F H S)(j:Ix.Good es)(s:ByteArray)(hs:s.size<=9223372036854775807):
  H_ h_ 22 #[i_ (c_ ⟨px,0,b_⟩),g_ s] w (nS es s.data.toList w):=by
 obtain⟨pj,mb,xs,hi,rfl,hS⟩:=h.ix;exact yx w px pj mb xs S hi hS j s hs
theorem fS.held{w':j_}{st:St}{g:Nat}{ps ls:List (List UInt8)}{es:List En}{e:KS}(h:fS w p F (st,.ok (g,ps,ls)) e w')(hr:replay [] (ps++ls)=c_ es)(I:n_ B w0 w)(M:B<=w0)(J:∀k,F k->B<=k):
  ∃px F' H S,e=k_ (J_ #[i_ (c_ ⟨px,0,b_⟩),.int d_ 0])/\XH B w0 w' px p st g ps ls es F' H S/\(∀k,(H k\/S k)->w.heap.size<=k)/\Kept F w w'/\aH w F F':=by
 obtain⟨F',h1,h2,K,j⟩:=h;unfold vi at j;simp only[hr]at j;obtain⟨px,H,S,rfl,G,t⟩:=j;have O:=I.size;refine⟨px,F',H,S,rfl,⟨G,λk D=>?_,I.trans (h2.below O_ J)⟩,t,h2,K⟩;rcases D with D|D
 ·rcases K k D with a|a
  ·exact J k a
  omega
 have:=t k (.inl D);omega
theorem wz(fs:List af)(gen:Nat)(log:List (List UInt8))(aJ:List UInt8):aQ ⟨-1,fs⟩ gen log aJ=(⟨-1,eJ aK (aw gen aJ) fs⟩,0,log++[aJ]):=by
 unfold aQ br;rw[G_ (by decide),zQ (by decide)];rfl
theorem Ff(fs:List af)(gen:Nat)(log:List (List UInt8))(es:List En){e:En}(h:gF e=true)(j:(aN e).length<=65536):fQ ⟨-1,fs⟩ gen log es e=(⟨-1,eJ aK (aw gen (aN e)) fs⟩,0,log++[aN e],aq aB e es):=by
 rw[nh h O_,wz];rfl
def GW:En:=⟨⟨#[97]⟩,3,[]⟩
theorem qQ:gF GW=true:=by kernel_rfl
theorem zR:aN GW=[1,1,97,0,0,0,3,0,0]:=by kernel_rfl
theorem vL:Ix.Good [GW]:=⟨by simp[cQ],λe he=>by simp at he;subst he;exact qQ⟩
theorem wv(w:j_):H_ h_ 8 #[] w λe w'=>e=k_ (u_ true)/\n_ w w w':=by
 go_enter Tryz.func8,Tryz.ntmps8;go_wp2_with fail;refine(DJ (-1) w).mono ?_;rintro e w1 ⟨p,F,rfl,ad,hF,J⟩;have b0:=J.size;have ak:=Z_ (jT w1 p ⟨-1,[]⟩ F ad Calm.nil O_ O_ (by decide) (λx hx=>by rw[wK]at hx;injection hx with hx;subst hx;exact⟨by decide,λl hl=>(by cases hl)⟩));have HF:=Z_ hF;have av:=Z_ J;clear ad hF J;go_wp2_with fail;refine ak.o.mono ?_;rintro e w2 K;rw[wK]at K;obtain⟨px,F2,H2,S2,rfl,a1,-⟩:=K.held (es:=[]) rfl av.o L_ (λk hk=>(HF.o k hk).1);have a2:=Z_ a1;clear K a1 ak HF av;have ba:=Z_ (j7 GW (JI #[.string ⟨#[97]⟩,.int d_ 3,a_ b_ 0 0]) w2 ⟨b_,0,rfl,by decide,bA.nil _ _ _ _ (Km _)⟩);go_wp2_with fail;refine ba.o.mono ?_;rintro e w3 ⟨v3,rfl,bb,j,-⟩;have j:=j qQ;rw[zR]at j;have bd:=a2.o.go L_ bb;obtain⟨A3,c3,rfl⟩:=j.form;have bf:=Z_ bd;have bO:=Z_ j.dH;have b1:=Z_ qQ;rw[qQ];clear a2 ba bb j bd;obtain⟨M,t⟩:=N_ (w3.alloc (f_ #[.int KD 1,.int KD 1,.int KD 97,.int KD 0,.int KD 0,.int KD 0,.int KD 3,.int KD 0,.int KD 0] 5));have D:n_ w3 w3 M:=by rw[t];exact B_.alloc L_ _
 have G:bw M M (a_ (c_ ⟨w3,0,b_⟩) 9 9) (byteCells [1,1,97,0,0,0,3,0,0]):=by
  rw[t];have:=bw.new w3 5 #[.int KD 1,.int KD 1,.int KD 97,.int KD 0,.int KD 0,.int KD 0,.int KD 3,.int KD 0,.int KD 0] (byteCells [1,1,97,0,0,0,3,0,0]) rfl (by decide);exact this.more (by simp)
 have bg:=Z_ (jg _ _ _ _ _ M ((bO.o.below D).more D.size) G);have bj:=Z_ (bf.o.go L_ D);clear bf D G;dsimp only[Ml];go_wp2_with fail;rw[<-t];refine bg.o.mono ?_;rintro e w5 ⟨O,n5,rfl⟩;replace O:e=k_ (u_ true):=O;subst O;have U:=bj.o.go L_ (below_drewN (JG M M) n5);have hlen:(aN GW).length=9:=by rw[zR];rfl
 have V:=Z_ (ph (M.drewN n5) px p 0 ⟨-1,[]⟩ [] [] [] F2 H2 S2 U.xf (JI #[.string ⟨#[97]⟩,.int d_ 3,a_ b_ 0 0]) GW ⟨b_,0,rfl,by decide,bA.nil _ _ _ _ (Km _)⟩ (λ_=>by rw[hlen];exact Calm.nil.modest (by decide) (by decide) (by decide)) (by decide) (by decide));rw[Ff [] 0 [] [] qQ (by rw[hlen];decide)]at V;have bk:=Z_ U;clear U hlen bg bj t;go_wp2_with fail;refine V.o.mono ?_;rintro e w6 ⟨rfl,bm⟩;obtain⟨F6,H6,S6,X,-⟩:=bk.o.op L_ bm;have bn:=Z_ X;have bo:=Z_ (X.find vL ⟨#[97]⟩ (by decide));clear bm X bk V;go_wp2_with fail;refine bo.o.mono ?_;rintro e w7 ⟨A7,c7,Y,-,bp⟩;replace Y:e=k_ (J_ #[JI #[.string ⟨#[97]⟩,.int d_ 3,a_ A7 0 c7],u_ true]):=Y;subst Y;have bt:n_ w7 w7 (w7.alloc (f_ #[.string ⟨#[97]⟩,.int d_ 3,a_ A7 0 c7] 55)):=B_.alloc L_ _;have Z:=Z_ ((bn.o.go L_ bp).go L_ bt);have bx:=Z_ (Z.o.entries vL (by decide));clear bn bo bp bt;go_wp2_with fail;refine bx.o.mono ?_;rintro e w9 ⟨A9,c9,rfl,-,bB⟩;have bN:=Z_ (Z.o.go L_ bB);clear bB bx Z;go_wp2_with fail;refine(tf _ _ _ _ _ _ _ _ _ _ _ bN.o.xf).mono ?_;rintro e bR ⟨he,n10,I⟩;replace he:e=k_ (.int d_ 1):=he;subst he;have HB10:x_ (n_ w w bR):=Z_ (by rw[I];exact below_drewN bN.o.below n10);clear I;go_wp2;go_ret;exact⟨rfl,HB10.o⟩
def vg(e:En):Prop:=(∀x∈e.aI,eU x.ty)/\e.aI.length<=1000000
theorem mP(xs:List Ex)(hp:∀x∈xs,eU x.ty)(v:m_)(w:j_)(j:bA (·<w.heap.size) w v xs)(t:xs.length<=1000000):
  H_ h_ 108 #[v] w λe w'=>∃A2 c2,e=k_ (a_ A2 xs.length c2)/\iG (λg=>w.heap.size<=g/\g<w'.heap.size) w' (a_ A2 xs.length c2) xs/\n_ w w w':=by
 refine(mO xs hp v w j t).mono ?_;rintro e w' ⟨v',rfl,h,D⟩;obtain⟨A,c,rfl,-,-⟩:=(iG.at_ h).form;exact⟨A,c,rfl,h,D⟩
theorem iK(es:List En)(hp:∀e∈es,vg e)(v:m_)(w:j_)(hX:aS (·<w.heap.size) w v es)(hl:es.length<=1000000):
  H_ h_ 63 #[v] w λe w'=>∃v',e=k_ v'/\jn (λg=>w.heap.size<=g/\g<w'.heap.size) w' v' es/\n_ w w w':=by
 obtain⟨A,c,rfl,hc,hm⟩:=hX.form;have HX:=Z_ hX;have HP:=Z_ hp;obtain⟨W1,I⟩:=N_ (w.alloc (f_ #[] 55));have av:n_ w w W1:=by rw[I];exact B_.alloc L_ _
 have bt:=Z_ av;have bx:x_ (az 55 3 eW w w W1 [] (a_ (c_ ⟨w,0,b_⟩) 0 0) []):=Z_ (by rw[I];exact az.made w L_);clear hX hc hm hp av;go_enter Tryz.func63,Tryz.ntmps63;go_wp2;rw[<-I];clear I
 go_loopw [3,4] (λsv iv W=>∃(k:Nat) (us:List m_),k<=es.length/\iv=e_ d_ k/\x_ (az 55 3 eW w w W (es.take k) sv us)/\x_ (n_ w w W)) (λ_ iv _=>es.length - (A_ iv).toNat)
 case atStart=>exact⟨0,[],by omega,rfl,bx,bt⟩
 obtain⟨k,us,hk,rfl,HR,HB⟩:=hrel;by_cases U:k<es.length
 ·obtain⟨b,off,A',c',rfl,hb,a1,a2,x0,x1,x2⟩:=(HX.o.ae (S':=(·<w.heap.size)) λg V=>⟨V,HB.o.block g V⟩).arg U
  have b5:=HB.o.size;have ht:=a2.sub (S':=(·<wr.heap.size)) λg (V:g<w)=>by omega
  clear a2;have hd:n_ wr wr wr.drew:=(JG wr _).drew;have Y:=HP.o es[k] (JB U);have ba:=mP es[k].aI Y.1 _ wr.drew (ht.fl hd) Y.2;have bB:x_ (es.take (k+1)=es.take k++[es[k]]):=Z_ (by rw[y_ U]);have bb:(es.take k).length=k:=by rw[JN];omega
  have bd:=Z_ bb;have bN:=Z_ a1;have bO:=Z_ (az.below (R:=eW) eW.ae HR.o hd);have bf:x_ (n_ w w wr.drew):=Z_ (HB.o.trans (hd.mono HB.o.size));have bg:=bf.o.size;have J:b<w:=hb;have M:x_ (∀W':j_,n_ w wr W'->W'.cell? ⟨b,off+k*3,b_⟩=c_ (g_ es[k].uri)/\W'.cell? ⟨b,off+k*3+1,b_⟩=c_ (e_ d_ es[k].bu)/\W'.cell? ⟨b,off+k*3+2,b_⟩=c_ (a_ A' es[k].aI.length c')):=
   Z_ λW' h=>⟨(h.cell (p:=⟨_,_,b_⟩) J).trans x0,(h.cell (p:=⟨_,_,b_⟩) J).trans x1,(h.cell (p:=⟨_,_,b_⟩) J).trans x2⟩
  have bj:x_ (n_ w wr wr.drew):=Z_ B_.drew;have j:=Z_ (M.o wr.drew bj.o);clear ht bb hd a1 J Y;generalize es[k]=X at*;have bR:=Z_ ba;clear ba;go_wp2_with fail;refine KE (S:=(λD:j_=>D.cell? ⟨b,off+k*3,b_⟩=c_ (g_ X.uri)/\D.cell? ⟨b,off+k*3+1,b_⟩=c_ (e_ d_ X.bu)/\D.cell? ⟨b,off+k*3+2,b_⟩=c_ (a_ A' X.aI.length c'))) K_ ?_;refine ve 0 12 u3 j.o ?_;refine ve 1 13 (a_ (c_ ⟨b,off,b_⟩) es.length c) j.o ?_;refine ve 2 14 (e_ d_ k) j.o ?_;refine ve 3 15 (i_ (c_ ⟨b,off+k*3,b_⟩)) j.o ?_;refine ve 4 16 (i_ (c_ ⟨b,off+k*3,b_⟩)) j.o ?_;refine ve 5 17 (g_ X.uri) j.o ?_;refine ve 6 18 (a_ (c_ ⟨b,off,b_⟩) es.length c) j.o ?_;refine ve 7 19 (e_ d_ k) j.o ?_;refine ve 8 20 (i_ (c_ ⟨b,off+k*3,b_⟩)) j.o ?_;refine ve 9 21 (i_ (c_ ⟨b,off+k*3+1,b_⟩)) j.o ?_;refine ve 10 22 (e_ d_ X.bu) j.o ?_;refine ve 11 23 (a_ (c_ ⟨b,off,b_⟩) es.length c) j.o ?_;refine ve 12 24 (e_ d_ k) j.o ?_;refine ve 13 25 (i_ (c_ ⟨b,off+k*3,b_⟩)) j.o ?_;refine ve 14 26 (i_ (c_ ⟨b,off+k*3+2,b_⟩)) j.o ?_;refine ve 15 27 (a_ A' X.aI.length c') j.o ?_;refine ag 16 λK hK=>?_
  go_simp;refine bR.o.mono ?_;rintro e D ⟨A2,c2,rfl,hu,O⟩;have Z:=az.below (R:=eW) eW.ae bO.o O;have b0:=Z_ Z;have HU:x_ (eW (λg=>wr.heap.size<=g/\g<D.heap.size) D (eV X A2 c2) X):=Z_ ⟨A2,c2,rfl,bN.o,hu⟩;have t:=Z.own;rw[bd.o]at t;obtain⟨b1,bk⟩:=N_ (us.flatMap cX);rw[<-bk]at t;have b6:wr.heap.size<=D.heap.size:=O.size;have bm:x_ (n_ w w D):=Z_ (bf.o.trans (O.mono bg));have G:n_ w wr D:=bj.o.trans (O.mono bg);have bn:=Z_ (M.o D G);clear Z hu;refine kk hK bn.o ?_;refine ve 17 29 (JI #[g_ X.uri,e_ d_ X.bu,a_ A2 X.aI.length c2]) bn.o ?_;refine ag 18 λK hK=>?_
  go_simp;have b2:=Z_ (M.o (D.alloc (f_ #[g_ X.uri,e_ d_ X.bu,a_ A2 X.aI.length c2] 55)) (G.alloc O_ _));refine kk hK b2.o ?_;refine ag 19 λK hK=>?_
  refine ig _ (.tmp 12) (.tmp 30) 45 rfl w 55 3 EP _ k b1 rfl (Kf t _) ⟨D,0,b_⟩ 1 1 [g_ X.uri,e_ d_ X.bu,a_ A2 X.aI.length c2] rfl rfl (bF _ _ _) (uB _ _ _ _ _) O_ (by simp;omega) (λv3 w3 ad ak bo=>?_);have bp:=Z_ (M.o w3 (bK G O_ _ ak (λg e=>(t.lt g e).1)));refine kk hK bp.o ?_;refine ve 20 3 v3 bp.o ?_;refine J6 K_ ?_ _;go_wp2;go_roundw
  case rel=>
   refine⟨k+1,us++[eV X A2 c2],by omega,by go_num,Z_ ?_,Z_ ?_⟩
   ·rw[bB.o]
    refine az.next (R:=eW) eW.ae b0.o HU.o (λg V=>⟨by omega,V.2,λe=>?_⟩) rfl _ ?_ ak bo
    ·have:=HR.o.lt g e;omega
    rw[bd.o,<-bk];exact ad
   exact bK bm.o O_ _ ak (λg e=>(t.lt g e).1)
  simp[A_];omega
 have b3:k=es.length:=by omega
 have hr:=HR.o;rw[b3,JO]at hr;have HE:=Z_ hr.FJ;clear hr;go_wp2;go_ret;exact⟨_,rfl,jn.ae HE.o λg V=>⟨⟨by omega,V.2⟩,rfl⟩,HB.o⟩
theorem aS.one{S:Nat->Prop}{W:j_}{e:En}{A:Option Addr}{c:Nat}(hn:e.uri.size<=9223372036854775807)(hx:bA (·<W.heap.size) W (a_ A e.aI.length c) e.aI)(o:Obj)(D:o=f_ #[.string e.uri,e_ .i64 e.bu,a_ A e.aI.length c] 55):
  aS (·<(W.alloc o).heap.size) (W.alloc o) (a_ (c_ ⟨W,0,b_⟩) 1 1) [e]:=by
 subst D;have G:n_ W W (W.alloc (f_ #[.string e.uri,e_ .i64 e.bu,a_ A e.aI.length c] 55)):=B_.alloc L_ _;have t:=r_ W (f_ #[.string e.uri,e_ .i64 e.bu,a_ A e.aI.length c] 55);refine⟨_,1,rfl,by simp,by simp[JT],λ_=>eV e A c,λ_=>⟨W,0,rfl,by simp,λi hi j hj=>?_⟩,λi hi=>?_⟩
 ·have:i=0:=by simpa using hi
  subst this;obtain⟨I,J,K⟩:=aR t;have:j=0\/j=1\/j=2:=by omega
  rcases this with rfl|rfl|rfl
  ·exact I
  ·exact J
  exact K
 have:i=0:=by simpa using hi
 subst this;exact⟨A,c,rfl,hn,hx.fl G⟩
theorem qG(E:En)(hp:vg E)(v:m_)(w:j_)(hX:bW (·<w.heap.size) w v E):
  H_ h_ 20 #[v] w λe w'=>∃A c,e=k_ (JI #[g_ E.uri,e_ d_ E.bu,a_ A E.aI.length c])/\iG (λg=>w.heap.size<=g/\g<w'.heap.size) w' (a_ A E.aI.length c) E.aI/\n_ w w w':=by
 obtain⟨A,c,rfl,ba,hex⟩:=hX;obtain⟨W2,j⟩:=N_ ((w.alloc (f_ #[g_ E.uri,e_ d_ E.bu,a_ A E.aI.length c] 55)).alloc (f_ #[g_ ⟨#[]⟩,e_ d_ 0,a_ b_ 0 0] 55));have M:n_ w w W2:=by rw[j];exact(B_.alloc L_ _).alloc (by simp) _
 have X:W2.heap.size=w.heap.size+2:=by rw[j];simp
 have Y:W2.heap[w.heap.size]?=c_ (f_ #[g_ E.uri,e_ d_ E.bu,a_ A E.aI.length c] 55 (0,0)):=by
  rw[j,z_ _ _ _ (by simp)];exact r_ _ _
 have Z:W2.heap[w.heap.size+1]?=c_ (f_ #[g_ ⟨#[]⟩,e_ d_ 0,a_ b_ 0 0] 55 (0,0)):=by
  rw[j];have:=r_ (w.alloc (f_ #[g_ E.uri,e_ d_ E.bu,a_ A E.aI.length c] 55)) (f_ #[g_ ⟨#[]⟩,e_ d_ 0,a_ b_ 0 0] 55);simpa using this
 obtain⟨W3,D⟩:=N_ (W2.alloc (f_ #[g_ E.uri,e_ d_ E.bu,a_ A E.aI.length c] 55));have O:n_ W2 W2 W3:=by rw[D];exact B_.alloc L_ _
 have K:aS (·<W3.heap.size) W3 (a_ (c_ ⟨W2,0,b_⟩) 1 1) [E]:=by
  rw[D];exact aS.one (S:=λ_=>True) ba (hex.fl M) _ rfl
 have ad:=Z_ (iK [E] (λe he=>by simp at he;subst he;exact hp) _ W3 K (by simp));have bb:=Z_ M;have ak:=Z_ X;have av:=Z_ O;have bd:=Z_ ((O.block _ O_).trans Z);have y:=aR Y;rw[j]at y;obtain⟨y0,y1,y2⟩:=y;rw[j]at D;clear hex K M X O Y Z hp j;unfold eV;go_enter Tryz.func20,Tryz.ntmps20;go_wp2_with fail;rw[show(w.heap.size+1+1)=W2.heap.size from ak.o.symm,<-D];clear D y0 y1 y2;refine ad.o.mono ?_;rintro e w4 ⟨v4,rfl,h4,J⟩;obtain⟨A4,c4,rfl,bf,-⟩:=(jn.at_ h4).form;obtain⟨b,off,V,c5,rfl,bj,-,U,z0,z1,z2⟩:=aS.arg (show aS _ _ _ _ from h4) (show 0<[E].length by simp);simp only[List.getElem_cons_zero,Nat.zero_mul,L5]at z0 z1 z2 U;have bk:=J.size;have bm:=av.o.size;have bg:=ak.o;have t:=(J.block _ O_).trans bd.o;obtain⟨y0,y1,y2⟩:=aR t;obtain⟨q0,q1,q2⟩:=au t;have a1:n_ w w w4:=(bb.o.trans (av.o.mono O_)).trans (J.mono O_);have bn:1<=c4:=by simpa using bf
 have G:=DU (g_ E.uri) (e_ d_ E.bu) (a_ V E.aI.length c5) t;have I:=Dr (F:=(·=w.heap.size+1)) (Kept.refl _ w4) (.inl rfl) (g_ E.uri) (e_ d_ E.bu) (a_ V E.aI.length c5);obtain⟨Wf,a2⟩:=N_ ((((w4.setCell ⟨w+1,0,b_⟩ (g_ E.uri)).setCell ⟨w+1,1,b_⟩ (e_ d_ E.bu)).setCell ⟨w+1,2,b_⟩ (a_ V E.aI.length c5)));rw[<-a2]at G I;obtain⟨f0,f1,f2⟩:=aR G;have HF:x_ (∃A c,k_ (JI #[g_ E.uri,e_ d_ E.bu,a_ V E.aI.length c5])=k_ (JI #[g_ E.uri,e_ d_ E.bu,a_ A E.aI.length c])/\iG (λg=>w.heap.size<=g/\g<Wf.heap.size) Wf (a_ A E.aI.length c) E.aI/\n_ w w Wf):=Z_ (by
  refine⟨V,c5,rfl,iG.ae U λg hg=>⟨by have:=I.size;omega,I.block g hg.2 O_⟩,a1.trans (I.below O_ (λk hk=>by omega))⟩)
 clear h4 J U t G I a1 ad;go_wp2;rw[<-a2];refine C_ (v:=JI #[g_ E.uri,e_ d_ E.bu,a_ V E.aI.length c5]) (by simp[results,Tryz.results20,go_sem,f0,f1,f2]) rfl ?_;exact HF.o
theorem mN(E:En)(hp:vg E)(v:m_)(w:j_)(j:bW (·<w.heap.size) w v E):
  H_ h_ 20 #[v] w λe w'=>∃A c,e=k_ (JI #[g_ E.uri,e_ d_ E.bu,a_ A E.aI.length c])/\bA (λg=>w.heap.size<=g/\g<w'.heap.size) w' (a_ A E.aI.length c) E.aI/\n_ w w w':=
 (qG E hp v w j).mono (by rintro e w' ⟨A,c,rfl,h,t⟩;exact⟨A,c,rfl,iG.at_ h,t⟩)
end Go.Proofs.YtaalbcfpacpgfaaGreat
namespace Go.Ix
open Go.RowKit Go.Lib Go.Vfs Go.Par Go.Typ
open Classical in
noncomputable def kT (xs ys:List En):Bool:=decide (xs=ys)
theorem mB{xs j:List En}(h:xs=j):kT xs j=true:=by simp[kT,h]
theorem pG{xs j:List En}(h:¬xs=j):kT xs j=false:=by simp[kT,h]
theorem Dk{xs j:List En}{k:Nat}(h1:k<xs.length)(h2:k<j.length)(h:¬xs[k]=j[k]):¬xs=j:=λe=>h (by subst e;rfl)
end Go.Ix
namespace Go.Proofs.YtaalbcfpacpgfaaGreat
open Go.RowKit Go.Lib Go.Vfs Go.Par Go.Typ Go.Shelf Go.Ix
theorem kg(xs t:List En)(u v:m_)(w:j_)(hX:aS (·<w.heap.size) w u xs)(hY:aS (·<w.heap.size) w v t):
  H_ h_ 17 #[u,v] w λe w'=>e=k_ (u_ (kT xs t))/\n_ w w w':=by
 obtain⟨A,c,rfl,hc,hm⟩:=hX.form;obtain⟨A2,c2,rfl,bb,Z⟩:=hY.form;have HX:=Z_ hX;have HY:=Z_ hY;have bt:xs.length<=9223372036854775807:=by simp only[JT]at hm;omega
 have bx:t.length<=9223372036854775807:=by simp only[JT]at Z;omega
 clear hX hc hm hY bb Z;by_cases hl:xs.length=t.length
 rotate_left
 ·have G:x_ (kT xs t=o_):=Z_ (pG λe=>hl (by rw[e]))
  have h4:((xs.length:Int) !=(t.length:Int))=true:=by simp;omega
  clear hl;go_enter Tryz.func17,Tryz.ntmps17;go_wp2;go_ret;rw[G.o];exact⟨rfl,JG _ _⟩
 have h4:((xs.length:Int) !=(t.length:Int))=false:=by simp[hl]
 have HL:=Z_ hl;clear hl;go_enter Tryz.func17,Tryz.ntmps17;go_wp2;clear h4
 go_loopw [5] (λiv W=>∃(k:Nat),k<=xs.length/\iv=e_ d_ k/\x_ (xs.take k=t.take k)/\x_ (n_ w w W)) (λiv _=>xs.length - (A_ iv).toNat)
 case atStart=>exact⟨0,by omega,rfl,Z_ (by simp),Z_ B_⟩
 obtain⟨k,hk,rfl,HA,I⟩:=hrel;by_cases J:k<xs.length
 ·have D:k<t.length:=by have:=HL.o;omega
  obtain⟨b,off,A',c',rfl,hb,bd,ht,x0,x1,x2⟩:=(HX.o.fl I.o).arg J;obtain⟨U,j,ad,ak,rfl,K,av,a1,y0,y1,y2⟩:=(HY.o.fl I.o).arg D;have hd:n_ wr wr wr.drew:=(JG wr _).drew;have M:=pV xs[k].aI t[k].aI _ _ wr.drew (ht.fl hd) (a1.fl hd);have O:x_ (¬xs[k]=t[k]->kT xs t=o_):=Z_ λh=>pG (Dk J D h)
  have bf:x_ (xs[k]=t[k]->xs.take (k+1)=t.take (k+1)):=Z_ λh=>by rw[y_ J,y_ D,HA.o,h]
  have bB:x_ (n_ w w wr.drew):=Z_ (I.o.trans (hd.mono I.o.size));have HD:=Z_ hd;clear ht a1 bd av hd;generalize xs[k]=X at*;generalize t[k]=Y at*;obtain⟨q,hq⟩:=N_ (jH X.aI Y.aI);rw[<-hq]at M;have HQ:=Z_ hq;have bg:=Z_ M;have a2:x_ (∀W':j_,n_ wr wr W'->W'.cell? ⟨b,off+k*3,b_⟩=c_ (g_ X.uri)/\W'.cell? ⟨b,off+k*3+1,b_⟩=c_ (e_ d_ X.bu)/\W'.cell? ⟨b,off+k*3+2,b_⟩=c_ (a_ A' X.aI.length c')/\W'.cell? ⟨U,j+k*3,b_⟩=c_ (g_ Y.uri)/\W'.cell? ⟨U,j+k*3+1,b_⟩=c_ (e_ d_ Y.bu)/\W'.cell? ⟨U,j+k*3+2,b_⟩=c_ (a_ ad Y.aI.length ak)):=
   Z_ λW' h=>⟨(h.cell (p:=⟨_,_,b_⟩) hb).trans x0,(h.cell (p:=⟨_,_,b_⟩) hb).trans x1,(h.cell (p:=⟨_,_,b_⟩) hb).trans x2,
    (h.cell (p:=⟨_,_,b_⟩) K).trans y0,(h.cell (p:=⟨_,_,b_⟩) K).trans y1,(h.cell (p:=⟨_,_,b_⟩) K).trans y2⟩
  clear M hq;by_cases hn:X.uri=Y.uri
  rotate_left
  ·have G:x_ (kT xs t=o_):=Z_ (O.o λe=>hn (by rw[e]))
   have bj:(X.uri.toList==Y.uri.toList)=false:=lj hn;clear hn;go_wp2_with fail
   go_quiet (fail)
   go_wp2;go_ret;rw[G.o];exact⟨rfl,below_drewN I.o _⟩
  have bj:(X.uri.toList==Y.uri.toList)=true:=(vv _ _).2 hn;have HN:=Z_ hn;clear hn;by_cases V:X.bu=Y.bu
  rotate_left
  ·have G:x_ (kT xs t=o_):=Z_ (O.o λe=>V (by rw[e]))
   have bk:(X.bu !=Y.bu)=true:=by simpa using V
   clear V;go_wp2_with fail
   go_quiet (fail)
   go_wp2;go_ret;rw[G.o];exact⟨rfl,below_drewN I.o _⟩
  have bk:(X.bu !=Y.bu)=false:=by simpa using V
  have HV:=Z_ V;clear V;go_wp2_with fail
  go_region_held (λW'=>W'.cell? ⟨b,off+k*3,b_⟩=c_ (g_ X.uri)/\W'.cell? ⟨b,off+k*3+1,b_⟩=c_ (e_ d_ X.bu)/\W'.cell? ⟨b,off+k*3+2,b_⟩=c_ (a_ A' X.aI.length c')/\W'.cell? ⟨U,j+k*3,b_⟩=c_ (g_ Y.uri)/\W'.cell? ⟨U,j+k*3+1,b_⟩=c_ (e_ d_ Y.bu)/\W'.cell? ⟨U,j+k*3+2,b_⟩=c_ (a_ ad Y.aI.length ak))
   (first|exact a2.o _ HD.o|exact a2.o _ (by assumption)) ((go_at_call 59;refine bg.o.mono ?_;rintro e w2 ⟨rfl,bm⟩;have bn:=HD.o.trans (bm.mono HD.o.size)))
  have ba:x_ (n_ w w w2):=Z_ (I.o.trans (bn.mono I.o.size));cases q
  ·have G:x_ (kT xs t=o_):=Z_ (O.o λe=>by have h:=HQ.o;rw[e,rQ rfl]at h;cases h)
   go_wp2;go_ret;rw[G.o];exact⟨rfl,ba.o⟩
  have bo:=Z_ (bf.o (En.ext' HN.o HV.o (Cd.1 HQ.o.symm)));go_wp2;go_roundw
  case rel=>exact⟨k+1,by omega,by go_num,bo,ba⟩
  simp[A_];omega
 have bp:k=xs.length:=by omega
 have G:x_ (kT xs t=true):=Z_ (mB (by
  have h:=HA.o;rw[bp,JO]at h;rw[h,HL.o,JO]))
 go_wp2;go_ret;rw[G.o];exact⟨rfl,I.o⟩
end Go.Proofs.YtaalbcfpacpgfaaGreat
namespace Go.Ix
open Go.RowKit Go.Lib Go.Vfs Go.Par Go.Typ
def GU(x:Ex):Int:=1+(x.name.size:Int)/16+cz x.ty 1000
def jk:List Ex->Int
 |[]=>0
 |x::xs=>GU x+jk xs
def EC(e:En):Int:=1+(e.uri.size:Int)/16+jk e.aI
def dL:List En->Int
 |[]=>0
 |e::es=>EC e+dL es
theorem tN(x:Ex):∀xs:List Ex,jk (xs++[x])=jk xs+GU x
 |[]=>by simp[jk]
 |y::xs=>by simp only[Ka,jk,tN x xs];omega
theorem tM(e:En):∀es:List En,dL (es++[e])=dL es+EC e
 |[]=>by simp[dL]
 |y::es=>by simp only[Ka,dL,tM e es];omega
theorem CE{xs:List Ex}{j:Nat}(h:j<xs.length):jk (xs.take (j+1))=jk (xs.take j)+GU xs[j]:=by rw[y_ h,tN]
theorem CD{es:List En}{k:Nat}(h:k<es.length):dL (es.take (k+1))=dL (es.take k)+EC es[k]:=by rw[y_ h,tM]
end Go.Ix
namespace Go.Proofs.YtaalbcfpacpgfaaGreat
open Go.RowKit Go.Lib Go.Vfs Go.Par Go.Typ Go.Shelf Go.Ix
variable{gen:Nat}{log:List (List UInt8)}{s:ByteArray}
theorem FR(x:Int):-9223372036854775808<=LJ x/\LJ x<=9223372036854775807:=by
 unfold LJ;omega
theorem qe(x:Int)(h0:-9223372036854775808<=x)(h1:x<=9223372036854775807):LJ x=x:=by
 unfold LJ;omega
theorem wk(es:List En)(hu:∀e∈es,e.uri.size<=140737488355328)(v:m_)(w:j_)(hX:aS (·<w.heap.size) w v es):
  H_ h_ 19 #[v] w λe w'=>∃q,e=k_ (u_ q)/\(es.length<=1000->q=o_->dL es<=3000)/\n_ w w w':=by
 obtain⟨A,c,rfl,hc,hm⟩:=hX.form;have HX:=Z_ hX;have cd:es.length<=9223372036854775807:=by simp only[JT]at hm;omega
 have HU:=Z_ hu;clear hX hc hm hu;go_enter Tryz.func19,Tryz.ntmps19;go_wp2
 go_loopw [3,4] (λnv iv W=>∃(k:Nat) (n:Int),k<=es.length/\nv=e_ d_ n/\iv=e_ d_ k/\(-9223372036854775808<=n/\n<=9223372036854775807)/\x_ (es.length<=1000->0<=n/\n<=2305843009213693952+(k:Int)*17592186044416/\(n<=3000->n=dL (es.take k)))/\x_ (n_ w w W)) (λ_ iv _=>es.length - (A_ iv).toNat)
 case atStart=>exact⟨0,0,by omega,rfl,rfl,⟨by omega,by omega⟩,Z_ (λ_=>⟨by omega,by omega,λ_=>rfl⟩),Z_ B_⟩
 obtain⟨k,n,hk,rfl,rfl,hn,HW,HB⟩:=hrel;by_cases Y:k<es.length
 ·obtain⟨b,off,A',c',rfl,hb,Z,hex,x0,x1,x2⟩:=(HX.o.fl HB.o).arg Y
  obtain⟨xs,ad⟩:=N_ (es[k].aI);obtain⟨u,hu⟩:=N_ (es[k].uri);have cf:u.size<=140737488355328:=by rw[hu];exact HU.o es[k] (JB Y)
  have a2:x_ (dL (es.take (k+1))=dL (es.take k)+(1+(u.size:Int)/16+jk xs)):=Z_ (by rw[CD Y,hu,ad];rfl);rw[<-ad]at hex x2;rw[<-hu]at x0;obtain⟨q,hq⟩:∃q:Int,q=(u.size:Int)/16:=⟨_,rfl⟩;have cg:0<=q/\q<=8796093022208:=by omega
  have J:(u.size:Int).tdiv 16=q:=by rw[hq,Int.tdiv_eq_ediv_of_nonneg O_]
  rw[<-hq]at a2;have bn:d_.wrap q=q:=xR _ O_ O_;have bo:d_.wrap (1+q)=1+q:=xR _ O_ O_;obtain⟨n1,O⟩:=N_ (LJ (n+(1+q)));have ba:=FR (n+(1+q));rw[<-O]at ba;have bp:x_ (es.length<=1000->0<=n1/\n1<=2305843009213693952+((k:Int)+1)*17592186044416/\(n1<=3000->n1=dL (es.take k)+(1+q+jk (xs.take 0)))):=Z_ λD=>by
   obtain⟨h1,h2,V⟩:=HW.o D;have e:n1=n+(1+q):=by rw[O];exact qe _ O_ O_
   refine⟨by omega,by omega,λh4=>?_⟩;rw[e,V O_];simp[jk]
  have bt:=Z_ hex;have ch:=Z_ hq;have ck:xs.length<=9223372036854775807:=by
   obtain⟨_,_,e,h1,h2⟩:=hex.form;simp only[JT]at h2;omega
  have bb:=Z_ x2;obtain⟨W1,bB⟩:=N_ (wr);subst bB;clear hq hex Z ad hu HW x1;go_wp2_with fail;try rw[<-O]
  clear O bn bo J x0
  go_loopw [3,5] (λnv jv W=>∃(j:Nat) (m:Int),j<=xs.length/\nv=e_ d_ m/\jv=e_ d_ j/\(-9223372036854775808<=m/\m<=9223372036854775807)/\x_ (es.length<=1000->0<=m/\m<=2305843009213693952+((k:Int)+1)*17592186044416/\(m<=3000->m=dL (es.take k)+(1+q+jk (xs.take j))))/\x_ (n_ W1 W1 W)) (λ_ jv _=>xs.length - (A_ jv).toNat)
  case atStart=>exact⟨0,n1,by omega,rfl,rfl,ba,bp,Z_ B_⟩
  obtain⟨j,m,hj,rfl,rfl,bd,ak,t⟩:=hrel;have cl:=t.o.size;have x2:=(t.o.cell (p:=⟨b,off+k*3+2,b_⟩) hb).trans bb.o;by_cases bf:j<xs.length
  rotate_left
  ·have bg:j=xs.length:=by omega
   have av:x_ (es.length<=1000->0<=m/\m<=2305843009213693952+((k:Int)+1)*17592186044416/\(m<=3000->m=dL (es.take (k+1)))):=Z_ λD=>by
    obtain⟨h1,h2,V⟩:=ak.o D;refine⟨h1,h2,λh4=>?_⟩;rw[V h4,a2.o,bg,JO]
   have cm:¬(j:Int)<(xs.length:Int):=by omega
   go_wp2;go_roundw
   case rel=>exact⟨k+1,m,by omega,rfl,by go_num,bd,Z_ (λD=>by have:=av.o D;simp only[Int.natCast_add];exact this),Z_ (HB.o.trans (t.o.mono HB.o.size))⟩
   simp[A_];omega
  have cc:(j:Int)<(xs.length:Int):=by omega
  by_cases bj:m<=3000
  rotate_left
  ·have av:x_ (es.length<=1000->0<=m/\m<=2305843009213693952+((k:Int)+1)*17592186044416/\(m<=3000->m=dL (es.take (k+1)))):=Z_ λD=>by
    obtain⟨h1,h2,V⟩:=ak.o D;exact⟨h1,h2,λh4=>absurd h4 bj⟩
   go_wp2;go_roundw
   case rel=>exact⟨k+1,m,by omega,rfl,by go_num,bd,Z_ (λD=>by have:=av.o D;simp only[Int.natCast_add];exact this),Z_ (HB.o.trans (t.o.mono HB.o.size))⟩
   simp[A_];omega
  obtain⟨G,I,A2,c2,rfl,K,Z,ht,z0,z1,z2,z3,z4⟩:=(bt.o.fl t.o).arg bf;have hd:n_ wr wr wr.drew:=(JG wr _).drew;have U:=zi xs[j].ty _ 1000 wr.drew (ht.fl hd) (by decide) (by decide);have bN:=lY ht.fit 1000 (by decide);have a1:x_ (jk (xs.take (j+1))=jk (xs.take j)+(1+(xs[j].name.size:Int)/16+cz xs[j].ty 1000)):=Z_ (CE bf);have HD:=Z_ hd;clear ht hd;generalize xs[j]=X at*;obtain⟨y,hy⟩:∃y:Int,y=(X.name.size:Int)/16:=⟨_,rfl⟩;obtain⟨z,hz⟩:∃z:Int,z=cz X.ty 1000:=⟨_,rfl⟩;rw[<-hz]at U bN a1;rw[<-hy]at a1;have cp:0<=y/\y<=576460752303423488:=by omega
  have J:(X.name.size:Int).tdiv 16=y:=by rw[hy,Int.tdiv_eq_ediv_of_nonneg O_]
  unfold cn at U;have bO:=Z_ U;have bk:x_ (∀W':j_,n_ wr wr W'->W'.cell? ⟨b,off+k*3+2,b_⟩=c_ (a_ (c_ ⟨G,I,b_⟩) xs.length c')/\W'.cell? ⟨G,I+j*5,b_⟩=c_ (g_ X.name)/\W'.cell? ⟨G,I+j*5+1,b_⟩=c_ (e_ d_ X.ty.kind)/\W'.cell? ⟨G,I+j*5+2,b_⟩=c_ (e_ d_ X.ty.num)/\W'.cell? ⟨G,I+j*5+3,b_⟩=c_ (g_ X.ty.name)/\W'.cell? ⟨G,I+j*5+4,b_⟩=c_ (a_ A2 X.ty.args.length c2)):=
   Z_ λW' h=>⟨(h.cell (p:=⟨_,_,b_⟩) (by show b<wr;omega)).trans x2,(h.cell (p:=⟨_,_,b_⟩) K).trans z0,(h.cell (p:=⟨_,_,b_⟩) K).trans z1,(h.cell (p:=⟨_,_,b_⟩) K).trans z2,(h.cell (p:=⟨_,_,b_⟩) K).trans z3,(h.cell (p:=⟨_,_,b_⟩) K).trans z4⟩
  have bR:LJ (1+y)=1+y:=qe _ O_ O_;have b0:LJ (1+y+z)=1+y+z:=qe _ O_ O_;obtain⟨m2,M⟩:=N_ (LJ (m+(1+y+z)));have bm:=FR (m+(1+y+z));rw[<-M]at bm;have b1:x_ (es.length<=1000->0<=m2/\m2<=2305843009213693952+((k:Int)+1)*17592186044416/\(m2<=3000->m2=dL (es.take k)+(1+q+jk (xs.take (j+1))))):=Z_ λD=>by
   obtain⟨h1,h2,V⟩:=ak.o D;have e:m2=m+(1+y+z):=by rw[M];exact qe _ O_ O_
   refine⟨by omega,by omega,λh4=>?_⟩;rw[e,V bj,a1.o];omega
  have b2:x_ (d_.wrap (m+d_.wrap (d_.wrap (1+d_.wrap y)+z))=m2):=Z_ (by
   rw[xR y O_ O_,xR (1+y) O_ O_,xR (1+y+z) O_ O_,M,IntKind.wrap_i64];unfold LJ;rfl)
  have cr:(-9223372036854775808:Int)<=1+y/\1+y<=9223372036854775807:=by omega
  clear U hz hy Z z0 z1 z2 z3 z4 bb;go_wp2_with fail
  go_region_held (λW'=>W'.cell? ⟨b,off+k*3+2,b_⟩=c_ (a_ (c_ ⟨G,I,b_⟩) xs.length c')/\W'.cell? ⟨G,I+j*5,b_⟩=c_ (g_ X.name)/\W'.cell? ⟨G,I+j*5+1,b_⟩=c_ (e_ d_ X.ty.kind)/\W'.cell? ⟨G,I+j*5+2,b_⟩=c_ (e_ d_ X.ty.num)/\W'.cell? ⟨G,I+j*5+3,b_⟩=c_ (g_ X.ty.name)/\W'.cell? ⟨G,I+j*5+4,b_⟩=c_ (a_ A2 X.ty.args.length c2))
   (first|exact bk.o _ HD.o|exact bk.o _ (by assumption)) ((go_at_call 62;refine bO.o.mono ?_;rintro e w2 ⟨rfl,b3⟩;have b5:=HD.o.trans (b3.mono HD.o.size)))
  have b6:x_ (n_ W1 W1 w2):=Z_ (t.o.trans (b5.mono t.o.size));try rw[<-M]
  clear M bR b0 J;go_wp2;go_roundw
  case rel=>exact⟨j+1,m2,by omega,by rw[b2.o],by go_num,bm,b1,b6⟩
  simp[A_];omega
 have cb:k=es.length:=by omega
 obtain⟨q,hq⟩:=N_ (decide (3000<n));have HQ:x_ (es.length<=1000->q=o_->dL es<=3000):=Z_ λD h=>by
  obtain⟨h1,h2,V⟩:=HW.o D;have h4:n<=3000:=by rw[hq]at h;have:=Ls h;omega
  have h5:=V h4;rw[cb,JO]at h5;omega
 go_wp2;go_ret;exact⟨_,rfl,by rw[<-hq];exact HQ.o,HB.o⟩
def gR(st:St)(gen:Nat)(log:List (List UInt8))(es:List En)(s:ByteArray):St×Int×List (List UInt8)×List En:=
 match aj aB s.data.toList es with
 |none=>(st,221,log,es)
 |some _=>((aQ st gen log (ed s)).1,(aQ st gen log (ed s)).2.1,(aQ st gen log (ed s)).2.2,if(aQ st gen log (ed s)).2.1=0 then an aB s.data.toList es else es)
theorem oz{st:St}{es:List En}(h:aj aB s.data.toList es=b_):gR st gen log es s=(st,221,log,es):=by unfold gR;rw[h]
theorem oA{st:St}{es:List En}{e:En}(h:aj aB s.data.toList es=c_ e):gR st gen log es s=((aQ st gen log (ed s)).1,(aQ st gen log (ed s)).2.1,(aQ st gen log (ed s)).2.2,if(aQ st gen log (ed s)).2.1=0 then an aB s.data.toList es else es):=by unfold gR;rw[h]
theorem uv(w:j_)(px p gen:Nat)(st:St)(base log:List (List UInt8))(es:List En)(F H S:Nat->Prop)(h:XF w px p st gen base log es F H S)(hg:Ix.Good es)(s:ByteArray)(hs:s.size<=9223372036854775807)
  (hm:Modest st 100) (b5:log.length<=1000000):
  H_ h_ 28 #[i_ (c_ ⟨px,0,b_⟩),.string s] w λe w'=>e=k_ (.int d_ (gR st gen log es s).2.1)/\cW w px p F H S (gR st gen log es s).1 gen base (gR st gen log es s).2.2.1 (gR st gen log es s).2.2.2 w':=by
 have b6:=Z_ h;obtain⟨pj,mb,xs,G,hj,hi,he,hH,hS,hn⟩:=h;subst he;obtain⟨P,hP⟩:∃P:KS->j_->Prop,P=λe w'=>e=k_ (.int d_ (gR st gen log (xs.map (·.e)) s).2.1)/\cW w px p F H S (gR st gen log (xs.map (·.e)) s).1 gen base (gR st gen log (xs.map (·.e)) s).2.2.1 (gR st gen log (xs.map (·.e)) s).2.2.2 w':=⟨_,rfl⟩
 have bg:=Z_ hP;rw[<-hP];have O:=hi.lt;obtain⟨A,c,hv,-,-⟩:=AX hi s.data.toList;have j:=hi.FM s hs;unfold eV at hv;rw[hv]at j;have D:=oe s.data.toList xs;obtain⟨E,hE⟩:=N_ (bZ (xs.map (·.e)) s.data.toList);rw[<-hE]at j;have p1:w.cell? ⟨px,1,b_⟩=c_ (.map (c_ mb)):=by simp[E_,hi.head]
 obtain⟨J,a2⟩:=N_ (w.alloc (f_ #[.string E.uri,.int d_ E.bu,a_ A E.aI.length c] 55));have t:n_ w w J:=by rw[a2];exact B_.alloc L_ _
 have cb:=Z_ t;have HJ:=Z_ hj;have HI:=Z_ hi;have HH:=Z_ hH;have HS:=Z_ hS;have HN:=Z_ hn;have HL:=Z_ O;have HM:=Z_ hm;have HG:=Z_ hg;cases hf:aj dA s.data.toList xs with
 |none=>
  rw[hf]at j D;have HE:x_ (P (k_ (.int d_ 221)) J):=Z_ (by
   rw[bg.o,oz D];exact⟨rfl,cW.same b6.o t⟩)
  clear hP hj hi hH hS hn O hm hg D hE hv t hf;go_enter Tryz.func28,Tryz.ntmps28;go_wp2;rw[<-a2];exact HE.o
 |some x=>
  rw[hf]at j D;have bo:gF x.e=true:=hg.ok x.e (Kw (aV hf).1);have bp:s.size=x.e.uri.size:=by
   have h1:=(aV hf).2;have h2:=eX s;have h3:=eX x.e.uri;rw[<-h2,<-h3,<-h1];rfl
  have U:1<=s.size/\s.size<=64:=by rw[bp];exact eP bo
  have bt:(ed s).length=2+s.size:=by have:=eX s;unfold ed;simp only[p_,this];rfl
  have cc:x_ (∀W,H_ h_ 67 #[.string s] W λe w'=>∃A2 c2,e=k_ (a_ A2 (ed s).length c2)/\Par.Own w' W 5 (a_ A2 (ed s).length c2) (byteCells (ed s))/\n_ W W w'):=Z_ λW=>by
   refine(wV s U.2 W).mono ?_;rintro e w' ⟨v,rfl,ho,hb⟩;obtain⟨A2,c2,bx⟩:=ho.form;rw[t_]at bx;subst bx;exact⟨A2,c2,rfl,ho,hb⟩
  have bB:=Z_ (oA (st:=st) (gen:=gen) (log:=log) (es:=xs.map (·.e)) (s:=s) (e:=x.e) D);have bN:=Z_ bt;have bb:=Z_ U;have V:dN J px pj mb xs S:=hi.ae (t.block _ O.1) (t.block _ O.2) (λb M=>t.block b (hS b M).1);have cm:=Z_ V;have cd:=t.size;have q0:∀W',n_ J J W'->W'.cell? ⟨px,0,b_⟩=c_ (i_ (c_ ⟨pj,0,b_⟩)):=λW' hb=>by
   have:W'.heap[px]?=_:=(hb.block px O_).trans V.head;simp[E_,this]
  have cf:=Z_ q0;have X:=Z_ (q0 J.drew B_.drew);clear hP hj hi hH hS hn O hm hg D hE hv t hf bo bp U bt V q0;go_enter Tryz.func28,Tryz.ntmps28;go_wp2_with fail;rw[<-a2];clear a2 p1 j;refine KE (S:=(λw2:j_=>w2.cell? ⟨px,0,b_⟩=c_ (i_ (c_ ⟨pj,0,b_⟩)))) K_ ?_;refine bI 0 19 (i_ (c_ ⟨px,0,b_⟩)) X.o ?_;refine bI 1 20 (i_ (c_ ⟨px,0,b_⟩)) X.o ?_;refine bI 2 21 (i_ (c_ ⟨px,0,b_⟩)) X.o ?_;refine bI 3 22 (i_ (c_ ⟨pj,0,b_⟩)) X.o ?_;refine bI 4 23 (.string s) X.o ?_;refine ag 5 λK hK=>?_
  go_simp;refine(cc.o J.drew).mono ?_;rintro e w2 ⟨A2,c2,rfl,bO,bR⟩;have Y:n_ J J w2:=((JG _ J).drew).trans bR;have cr:=Y.size;have I:n_ w w w2:=cb.o.trans (Y.mono cd);have bj:=Z_ I;have cg:=Z_ (cf.o w2 Y);have hl:=HL.o;have b0:x_ (dN w2 px pj mb xs S):=Z_ (HI.o.ae (I.block _ hl.1) (I.block _ hl.2) (λb M=>I.block b (HS.o b M).1));have ch:=Z_ (oU (HJ.o.below I) (a_ A2 (ed s).length c2) (ed s) (by
   have h1:=Own.jf bO (F:=λk=>k<J.heap.size) (λk M=>M);exact h1.ae λb hb=>⟨⟨hb.1,λhf=>hb.2 (by have:=HJ.o.fs.lt b hf;show b<J;omega)⟩,rfl⟩) (by have:=bN.o;have:=bb.o;omega) (by
   have h:=HM.o;have:=bN.o;have:=bb.o;exact⟨λf hf=>by have:=h.1 f hf;omega,by have:=h.2.1;omega,h.2.2.1,h.2.2.2⟩) b5)
  clear bO bR I;refine kk hK cg.o ?_;refine ag 6 λK hK=>?_
  go_simp;refine ch.o.mono ?_;rintro e w3 ⟨rfl,bk⟩;obtain⟨Z,ad⟩:=cW.iN bj.o b0.o HH.o HS.o HN.o HL.o bk;have b1:x_ (w3.cell? ⟨px,0,b_⟩=c_ (i_ (c_ ⟨pj,0,b_⟩))):=Z_ (by simp[E_,ad.head]);have bm:=Z_ Z;have bd:=Z_ ad;have ck:=Z_ bk;clear Z ad bk;obtain⟨r,hr⟩:=N_ ((aQ st gen log (ed s)).2.1);rw[<-hr];have HR:=Z_ hr;clear hr;refine kk hK b1.o ?_;refine bI 7 7 (.int d_ r) b1.o ?_;refine J6 K_ ?_ _;by_cases ba:r=0
  rotate_left
  ·have ct:(r !=0)=true:=by simpa using ba
   have HE:x_ (P (k_ (.int d_ r)) w3):=Z_ (by
    rw[bg.o,bB.o];simp only;rw[<-HR.o,I_ ba];exact⟨rfl,bm.o⟩)
   go_wp2;exact HE.o
  have cl:x_ ((aQ st gen log (ed s)).2.1=0):=Z_ (by rw[<-HR.o,ba]);subst ba;obtain⟨F3,G3,b2,bn,ak,av⟩:=ck.o;have cu:=bj.o.size;have cv:=bn.size;have a1:=HN.o;have hl:=HL.o;have p1:w3.cell? ⟨px,1,b_⟩=c_ (.map (c_ mb)):=by simp[E_,bd.o.head]
  obtain⟨w5,cp,bf,b3,cx⟩:=bd.o.del s hs 0;have HE:x_ (P (k_ (.int d_ 0)) w5):=Z_ (by
   rw[bg.o,bB.o];simp only;rw[cl.o,G_ rfl];refine⟨rfl,?_⟩;rw[<-th];refine cW.Eo (F':=F3) (G':=G3) b2 ((Kept.ar bj.o).trans' (bn.mono λk _ h=>h.imp id λhg=>(HH.o k).2 (.inl hg))) (λk M=>(ak k M).imp id λh=>by omega) (λk M=>by
    rcases av k M with h|h
    ·exact .inl ((HH.o k).2 (.inl h))
    right;omega) ⟨λh=>?_,λh=>?_,λh=>?_,λh=>?_⟩ ⟨(HH.o _).2 (.inr (.inl rfl)),(HH.o _).2 (.inr (.inr rfl))⟩ bf b3 (λk M=>?_)
   ·rcases ak _ h with h|h
    ·exact a1.1 h
    omega
   ·rcases ak _ h with h|h
    ·exact a1.2.1 h
    omega
   ·rcases av _ h with h|h
    ·exact a1.2.2.1 h
    omega
   ·rcases av _ h with h|h
    ·exact a1.2.2.2 h
    omega
   obtain⟨s1,s2,s3⟩:=HS.o k M;have hh:=λh=>s3 ((HH.o k).2 h)
   refine⟨.inl M,by omega,λh=>?_,λh=>?_,λh=>hh (.inr (.inl h)),λh=>hh (.inr (.inr h))⟩
   ·rcases ak _ h with h|h
    ·exact s2 h
    omega
   rcases av _ h with h|h
   ·exact hh (.inl h)
   omega)
  clear b2 bn ak av bf b3 a1;go_wp2;exact HE.o
