import Derived.Test.YtaalbcfpacpgfaaGreatZdI15
import Derived.Test.YtaalbcfpacpgfaaGreatZdI20a
import Derived.Test.YtaalbcfpacpgfaaGreatZdK7
set_option linter.all false
set_option maxHeartbeats 16000000
set_option maxRecDepth 100000
open Bool renaming true->v_
open Go.Ending renaming returned->k_
open Go.Fence renaming wide->JK
open Go.IntKind renaming i64->d_
open Go.Lib renaming byteCells->l_
open Go.Obj renaming cells->f_
open Go.Proofs.Tryz renaming prog->h_
open Go.RowKit renaming Below->n_,Hid->x_
open Go renaming Value->m_,World->j_,undef->q_
open Go.Value renaming int->e_,pointer->i_,slice->a_,string->g_
open Go.World renaming cell?->E_,frozen?->JW
open Option renaming none->b_,some->c_
namespace Go.Proofs.YtaalbcfpacpgfaaGreat
open Go.RowKit Go.Lib Go.Vfs Go.Par Go.Shelf
section
variable{P:Program}{ops:Array Oper}{md:Region.Mode}{n:Nat}{Q:Exit->Act->j_->Prop}
variable{a:Act}{w:j_}{K:Act->j_->Prop}
theorem sB(h1:1<=n){o:Oper}(j:∀c,o.op≠.defer c)(h:o.wp P a w K Q):o.wpIn JK n P a w K Q:=by
 unfold Oper.wpIn;refine⟨λ_ _=>trivial,?_⟩;rw[Oper.semAt_plain JK _ _ j];unfold Oper.wp at h;generalize(execOp a.eval o).run P w=r at*;cases r with
 |ok m w'=>
  cases m<;>simp only[Oper.upon]at h<;>simp only[Oper.uponIn]
  case value=>exact h
  case skip=>exact h
  case defer=>exact h
  case enter f args=>exact⟨λ_=>h1,Kg.2 h⟩
  case row row args=>
   refine⟨λ_=>h1,?_⟩;have:RowsIn JK (n - 1) P row args w' λv t=>K (a.put o.dst v) t:=λc cs _=>let⟨v,w2,r,s⟩:=h c cs;⟨v,w2,r,stepsIn_wide.2 s⟩
   exact this
 |halt x w'=>cases x<;>simp only[Oper.upon]at h<;>simp only[Oper.uponIn]<;>exact h
theorem pX(h1:1<=n)(D:gq ops.toList=v_)(G:¬LetsOut Q){i:Nat}(j:wpOp P ops Q i K a w):wpOpIn JK n P ops Q i K a w:=by
 unfold wpOp at j;unfold wpOpIn;split
 ·rename_i t;simp only[t]at j;exact j
 rename_i o t
 simp only[t]at j;split
 ·rename_i hw
  simp only[hw,Ml]at j;rcases j with j|⟨_,j⟩
  ·exact sB h1 (my D (by simpa using t)) j
  exact absurd j G
 rename_i hw;simp only[hw]at j;exact⟨λ_ _=>trivial,j⟩
theorem kj(h1:1<=n)(t:gq ops.toList=v_)(D:¬LetsOut Q):∀(fuel:Nat) (j:Array Bool) (a:Act) (w:j_),wpAny P md ops Q fuel j a w->wpAnyIn JK n P md ops Q fuel j a w
 |0,_,_,_,h=>h
 |fuel+1,_,_,_,h=>⟨h.1,λi hi=>wpOpIn_mono (λG w' I=>kj h1 t D fuel _ G w' I) (pX h1 t D (h.2 i hi))⟩
theorem sb(h1:1<=n){id:Nat}{S:j_->Prop}(hm:P.follows .mixedOrders=v_)(j:gq ops.toList=v_)(t:¬LetsOut Q)
  (h:wpAnyH P .any ops Q S ops.size (Array.replicate ops.size false) a w.drew):(Code.region id ops v_).wpIn JK n P Q a w:=
 wpIn_region_any hm (kj h1 j t _ _ _ _ (wpAny_of_held _ _ _ _ h))
end
end Go.Proofs.YtaalbcfpacpgfaaGreat
namespace Go.Ix
open Go.RowKit Go.Lib Go.Vfs Go.Par Go.Typ
variable{S:Nat->Prop}{v:m_}{w w':j_}{L B:Nat}{xs:List (List UInt8)}{us:List m_}
theorem D9{W:j_}{l:List m_}(h:a8 S W v l):a8 (λb=>S b/\FY W b) W v l:=by
 obtain⟨A,c,e,h1,h2,t⟩:=h;refine⟨A,c,e,h1,h2,λh0=>?_⟩;obtain⟨b,off,e,D,j⟩:=t h0;refine⟨b,off,e,⟨D,?_⟩,j⟩;have:=j 0 h0;rw[w_ h0]at this;exact C0 this
def g9(S:Nat->Prop)(W:j_)(v:m_)(l:List UInt8):Prop:=a8 (λb=>S b/\FY W b) W v (l_ l)
theorem g9.ae{S':Nat->Prop}{x:List UInt8}(h:g9 S w v x)(t:∀b,S b->S' b/\w'.heap[b]?=w.heap[b]?):g9 S' w' v x:=
 a8.ae h λb j=>⟨⟨(t b j.1).1,by unfold FY;rw[(t b j.1).2];exact j.2⟩,(t b j.1).2⟩
theorem BY{t:Nat}(h:az t 1 g9 L B w xs v us){row:Option Nat}(G:w.grownBy w' row)(hr:∀r,row=c_ r->∃o:Obj,w.heap[r]?=c_ o/\o.isCells=false):az t 1 g9 L B w' xs v us:=by
 have key:∀b,b<w.heap.size->FY w b->w'.heap[b]?=w.heap[b]?:=λb j ⟨cs,t,O,hc⟩=>G.block b j λe=>by
  obtain⟨o,I,hn⟩:=hr b e.symm;rw[hc]at I;cases I;cases hn
 refine⟨h.len,aO h.own λg e=>?_,h.size,λi hi=>?_⟩
 ·rcases h.own.2 with⟨D,_⟩|⟨U,cap,cur,D,_,J,_⟩
  ·rw[D]at e;cases e
  rw[D]at e;cases e;exact key _ (ao J) ⟨_,_,_,J⟩
 have h1:a8 _ w _ _:=h.each i hi;refine a8.ae h1 λb j=>?_
 have M:=key b j.1.2.1 j.2;exact⟨⟨⟨j.1.1,Kc j.1.2.1 G.size,j.1.2.2⟩,by unfold FY;rw[M];exact j.2⟩,M⟩
theorem az.AG{t:Nat}(h:az t 1 g9 L B w xs v us)(J:∀u∈us,cX u=[u]):∃vs:List m_,vs.length=xs.length/\a8 (λg=>(L<=g\/B<=g)/\g<w.heap.size) w v vs/\∀i,i<xs.length->a8 (λg=>(L<=g\/B<=g)/\g<w.heap.size) w (vs.getD i (.bool false)) (l_ (xs.getD i [])):=by
 have D:us.flatMap cX=us:=by
  have:∀l:List m_,(∀u∈l,cX u=[u])->l.flatMap cX=l:=by
   intro l
   induction l with
   |nil=>intro _;rfl
   |cons a l M=>intro G;rw[Me,G a (by simp),M λu hu=>G u (by simp[hu])];rfl
  exact this us J
 refine⟨us,h.len,?_,λi hi=>?_⟩
 ·have I:=h.own
  rw[D,<-h.len]at I;exact(Own.jf (F:=(·<B)) (show Par.Own w B t v us from I) (λk O=>O)).ae λb j=>⟨⟨.inr (by have:=j.2;omega),j.1⟩,rfl⟩
 have h1:=h.each i hi;have:xs.getD i []=xs[i]:=by rw[s_,w_ hi];rfl
 rw[this];exact a8.ae h1 λb j=>⟨⟨.inl j.1.1,j.1.2.1⟩,rfl⟩
end Go.Ix
namespace Go.Proofs.YtaalbcfpacpgfaaGreat
open Go.RowKit Go.Lib Go.Vfs Go.Par Go.Typ Go.Shelf Go.Ix
attribute [local go_sem] Oper.semAt_some
variable{us:List m_}{W w2 w3 w W':j_}{pre base log:List (List UInt8)}{v v3:m_}{L:List UInt8}{A2:Option Addr}{n2 c2 px p gen:Nat}{o:Obj}{F H S:Nat->Prop}
theorem kH(h:∀u∈us,∃A n c,u=a_ A n c):us.flatMap cX=us:=by
 induction us with
 |nil=>rfl
 |cons a l j=>
  obtain⟨A,n,c,e⟩:=h a (by simp);rw[Me,j λu hu=>h u (by simp[hu]),e];rfl
theorem tv{B:Nat}(hr:az 24 1 g9 B B W pre v us)(hs:∀u∈us,∃A n c,u=a_ A n c)(M:B<=W)(j:n_ W W w2)
  (hx:Par.Own w2 W 5 (a_ A2 n2 c2) (l_ L)) (t:Par.Own w3 B 24 v3 (us++[a_ A2 n2 c2])) (G:(w2.alloc o).grownBy w3 v.ownBlock) (I:v3.ownBlock=v.ownBlock\/v3.ownBlock=c_ (w2.alloc o).heap.size):
  az 24 1 g9 B B w3 (pre++[L]) v3 (us++[a_ A2 n2 c2])/\(∀u∈us++[a_ A2 n2 c2],∃A n c,u=a_ A n c)/\n_ B W w3:=by
 have D:=hr.own.lt;have O:=j.size;have J:=Own.jf hx (F:=(·<W.heap.size)) (λk U=>U);refine⟨az.next (R:=g9) g9.ae (az.below (R:=g9) g9.ae hr j) (u:=a_ A2 n2 c2) (x:=L) (S:=λg=>W.heap.size<=g/\g<w2.heap.size) (D9 (J.ae λb j=>⟨⟨by have:=j.2;omega,j.1⟩,rfl⟩)) (λg G=>⟨by omega,G.2,λe=>by have:=(D g e).2;omega⟩) rfl o ?_ G I,λu hu=>?_,((j.mono M).alloc O_ o).grown G (by simp;omega) (λk e=>(D k e).1)⟩
 ·rw[kH hs]
  have:w3.ownsRow B 24 1 v3 (us++[a_ A2 n2 c2]).length (us++[a_ A2 n2 c2]):=t;rwa[p_,hr.len]at this
 rcases KI.1 hu with hu|hu
 ·exact hs u hu
 simp at hu;exact⟨_,_,_,hu⟩
structure CI(w:j_)(pre:List (List UInt8))(W:j_):Prop where
 res:W.heap[w.heap.size]?=c_ (f_ #[e_ d_ 0] 28 (0,0))
 row:∃v us,Boxed W (w.heap.size+1) 22 v/\az 24 1 g9 (w.heap.size+3) (w.heap.size+3) W pre v us/\∀u∈us,∃A n c,u=a_ A n c
 below:n_ w.heap.size w W
 size:w.heap.size+3<=W.heap.size
theorem CI.walk(h:CI w pre W){row:Option Nat}(j:W.grownBy W' row)(hr:∀r,row=c_ r->w.heap.size+3<=r/\∃o:Obj,W.heap[r]?=c_ o/\o.isCells=false):CI w pre W':=by
 obtain⟨v,us,h1,h2,D⟩:=h.row;have I:=h.size;have t:=h.below;refine⟨(j.block _ O_ (λe=>by have:=(hr _ e.symm).1;omega)).trans h.res,⟨v,us,h1.kept j (λe=>by have:=(hr _ e.symm).1;omega),BY h2 j (λr e=>(hr r e).2),D⟩,⟨j.os.trans t.os,j.tape.trans t.tape,j.output.trans t.output,Kj t.size j.size,λk G=>(j.block k O_ (λe=>by have:=(hr k e.symm).1;omega)).trans (t.block k G)⟩,by have:=j.size;omega⟩
theorem CI.go(h:CI w pre W)(j:n_ W W W'):CI w pre W':=by
 obtain⟨v,us,h1,h2,t⟩:=h.row;have D:=h.size;exact⟨(j.block _ O_).trans h.res,⟨v,us,(j.block _ O_).trans h1,az.below (R:=g9) g9.ae h2 j,t⟩,h.below.trans (j.mono O_),by have:=j.size;omega⟩
theorem CI.next{n₀:Nat}(U:n₀=w.heap.size+3)(h:CI w pre W)(V:Boxed W (w+1) 22 v)(hr:az 24 1 g9 (w+3) (w+3) W pre v us)(hs:∀u∈us,∃A n c,u=a_ A n c)(D:n_ W W w2)
  (hx:Par.Own w2 W 5 (a_ A2 n2 c2) (l_ L)) (M:Par.Own w3 (w+3) 24 v3 (us++[a_ A2 n2 c2]))
  (G:(w2.alloc o).grownBy w3 v.ownBlock) (O:v3.ownBlock=v.ownBlock\/v3.ownBlock=c_ (w2.alloc o).heap.size):
  KeepsFrom (w+3) W (w3.setCell ⟨w+1,0,b_⟩ v3)/\xU n₀ (IB (w+1)) W (w3.setCell ⟨w+1,0,b_⟩ v3)/\CI w (pre++[L]) (w3.setCell ⟨w+1,0,b_⟩ v3):=by
 subst U;have hz:=h.size;have ad:=D.size;have X:=G.size;simp only[JQ]at X;have I:=hr.own.lt;have same:∀k,k<W.heap.size->k≠w.heap.size+1->v.ownBlock≠c_ k->(w3.setCell ⟨w+1,0,b_⟩ v3).heap[k]?=W.heap[k]?:=λk j h1 h2=>by
  rw[ab h1,G.block k (by simp;omega) (λe=>h2 e.symm),z_ _ _ _ O_];exact D.block k j
 have ak:(w3.setCell ⟨w+1,0,b_⟩ v3).heap.size=w3.heap.size:=by simp[World.setCell]
 have t:Boxed w3 (w+1) 22 v:=by
  have h1:Boxed w2 (w+1) 22 v:=(D.block _ O_).trans V;exact(h1.alloc o).kept G (λe=>by have:=(I _ e.symm).1;omega)
 obtain⟨J,Y,-⟩:=tv hr hs O_ D hx M G O;refine⟨⟨by omega,λk ob hB j hc=>?_⟩,⟨by omega,λk ob j av hn=>?_,λk j=>?_⟩,⟨?_,⟨v3,us++[a_ A2 n2 c2],t.set v3,?_,Y⟩,?_,by omega⟩⟩
 ·refine(same k (ao j) O_ (λe=>?_)).trans j
  rcases hr.own.2 with⟨Z,_⟩|⟨g,cap,cur,Z,_,hh,_⟩
  ·rw[Z]at e;cases e
  rw[Z]at e;cases e;rw[hh]at j;cases j;cases hc
 ·exact(same k (ao j) (λe=>hn (.inl e)) (λe=>hn (.inr ⟨v,V.cell,e⟩))).trans j
 ·rcases j with rfl|⟨u,hu,j⟩
  ·exact .inl (.inl rfl)
  rw[(t.set v3).cell]at hu;cases hu;rcases O with h1|h1
  ·rw[h1]at j;exact .inl (.inr ⟨v,V.cell,j⟩)
  rw[h1]at j;cases j;right;simp;omega
 ·exact(same _ O_ O_ (λe=>by have:=(I _ e).1;omega)).trans h.res
 ·exact az.oL (R:=g9) g9.ae J (Lo:=w.heap.size+3) L_ L_ (λg h1 h2=>ab (a:=⟨w+1,0,b_⟩) (show g≠w.heap.size+1 by omega)) O_
 refine⟨G.os.trans (D.os.trans h.below.os),G.tape.trans (D.tape.trans h.below.tape),G.output.trans (D.output.trans h.below.output),by have:=h.below.size;omega,λk j=>?_⟩;exact(same k O_ O_ (λe=>by have:=(I k e).1;omega)).trans (h.below.block k j)
def Jo(w:j_){xs:List gY}(T:kd xs->Nat->Array m_)(x:kd xs)(a':Act)(W:j_):Prop:=
 ∃bx A c,w.heap.size+3<=bx/\x.1.v=.agg #[g_ x.1.e.uri,e_ d_ x.1.e.bu,a_ A x.1.e.aI.length c]/\bA (·<w.heap.size) w (a_ A x.1.e.aI.length c) x.1.e.aI/\a'={tmps:=T x bx,defers:=[]}/\
  W.heap[bx]?=c_ (f_ #[g_ x.1.e.uri,e_ d_ x.1.e.bu,a_ A x.1.e.aI.length c] 55 (0,0))
def iD{xs:List gY}(pre:List (kd xs)):List (List UInt8):=pre.map λx=>aN x.1.e
theorem wT{xs:List gY}(pre:List (kd xs))(x:kd xs):iD (pre++[x])=iD pre++[aN x.1.e]:=by simp[iD]
theorem yQ(xs:List gY):iD xs.attach=(xs.map (·.e)).map aN:=by
 unfold iD;rw[Mv,show(λx:kd xs=>aN x.1.e)=((aN∘λy:gY=>y.e)∘Subtype.val)from rfl,<-Mv,List.attach_map_subtype_val]
theorem XF.block{w':j_}{st:St}{es:List En}(h:XF w px p st gen base log es F H S)(j:∀k,(F k\/H k\/S k)->w'.heap[k]?=w.heap[k]?)(M:w.heap.size<=w'.heap.size):XF w' px p st gen base log es F H S:=by
 obtain⟨D,I,xs,G,hj,hi,he,t,hS,hn⟩:=h;exact⟨D,I,xs,G,⟨hj.fs.ae λk h=>j k (.inl h),hj.js.block λk h=>j k (.inr (.inl ((t k).2 (.inl h)))),hj.apart⟩,hi.ae (j _ (.inr (.inl ((t _).2 (.inr (.inl rfl)))))) (j _ (.inr (.inl ((t _).2 (.inr (.inr rfl)))))) (λb J=>j b (.inr (.inr J))),he,t,λk j=>⟨by have:=(hS k j).1;omega,(hS k j).2⟩,hn⟩
theorem cW.over{X:j_}{st:St}{es:List En}(D:n_ w w X)(t:∀k,(F k\/H k\/S k)->k<w.heap.size)(hp:cW X px p F H S st gen base log es w3)(j:Kept (λk=>w.heap.size<=k/\k<X.heap.size) w3 W'):cW w px p F H S st gen base log es W':=by
 obtain⟨F',I,S',h1,h2,J,M,O⟩:=hp;have V:=D.size;have U:=h2.size;have G:=h1.lt;have out:∀k,(F' k\/I k\/S' k)->¬(w.heap.size<=k/\k<X.heap.size):=λk j hc=>by
  have:=t k;rcases j with j|j|j
  ·rcases J k j with h|h
   ·have:=t k (.inl h);omega
   omega
  ·rcases M k j with h|h
   ·have:=t k (.inr (.inl h));omega
   omega
  rcases O k j with h|h
  ·have:=t k (.inr (.inr h));omega
  omega
 refine⟨F',I,S',h1.block (λk h=>j.block k (G k h) (out k h)) j.size,⟨j.os.trans (h2.os.trans D.os),j.tape.trans (h2.tape.trans D.tape),j.output.trans (h2.output.trans D.output),by have:=j.size;omega,λk h1 hn=>?_⟩,λk j=>(J k j).imp id λh=>by omega,λk j=>(M k j).imp id λh=>by omega,λk j=>(O k j).imp id λh=>by omega⟩;exact(j.block k O_ (λh=>by omega)).trans ((h2.block k O_ hn).trans (D.block k h1))
def zr(w:j_)(px p:Nat)(F H S:Nat->Prop)(st:St)(gen:Nat)(base log:List (List UInt8))(es:List En)(e:Ending)(w':j_):Prop:=
 ∃r,ax (bE (gen+1) (cy (es.map aN).length::es.map aN)) (a7 (bV st.files aK)) st=r/\e=k_ (e_ d_ r.2)/\cW w px p F H S r.1 (if r.2=0 then gen+1 else gen) (if r.2=0 then es.map aN else base) (if r.2=0 then []else log) es w'
theorem vC(w:j_)(px p gen:Nat)(st:St)(base log:List (List UInt8))(es:List En)(F H S:Nat->Prop)(h:XF w px p st gen base log es F H S)(eb:Ix.Good es)(fr:es.length<=10000)(b0:∀e∈es,(aN e).length<=65536)
  (hg:gen+1<4294967296) (hE:(bE (gen+1) (cy (es.map aN).length::es.map aN)).length<=900000) {kf d:Nat} (hc:Calm st.files kf d) (a1:kf<=1000) (hd:d<=2000000) (eo:st.aa<=9223372036854775807):
  Calls h_ 23 #[i_ (c_ ⟨px,0,b_⟩)] w (zr w px p F H S st gen base log es):=by
 obtain⟨P,hP⟩:=N_ (zr w px p F H S st gen base log es);have cd:=Z_ hP;rw[<-hP];clear hP;obtain⟨pj,mb,xs,G,hj,hi,he,hH,hS,hn⟩:=h;subst he;rw[KL]at fr;have bn:=hi.lt;obtain⟨W0,b1⟩:=N_ (((w.alloc (f_ #[e_ d_ 0] 28)).alloc (f_ #[a_ b_ 0 0] 22)).alloc (f_ #[i_ (c_ ⟨px,0,b_⟩)] 40));have fz:W0.heap.size=w.heap.size+3:=by rw[b1];simp
 have ch:n_ w w W0:=by rw[b1];exact((ah w _).alloc (by simp) _).alloc (by simp;omega) _
 have kr:W0.heap[w.heap.size]?=c_ (f_ #[e_ d_ 0] 28 (0,0)):=by
  rw[b1,z_ _ _ _ (by simp;omega),z_ _ _ _ (by simp)];exact r_ _ _
 have k0:Boxed W0 (w+1) 22 (a_ b_ 0 0):=by
  rw[b1];have:=(Boxed.new (w.alloc (f_ #[e_ d_ 0] 28)) 22 (a_ b_ 0 0)).alloc (f_ #[i_ (c_ ⟨px,0,b_⟩)] 40);simpa using this
 have k1:W0.heap[w.heap.size+2]?=c_ (f_ #[i_ (c_ ⟨px,0,b_⟩)] 40 (0,0)):=by
  rw[b1];have:=r_ ((w.alloc (f_ #[e_ d_ 0] 28)).alloc (f_ #[a_ b_ 0 0] 22)) (f_ #[i_ (c_ ⟨px,0,b_⟩)] 40);simpa using this
 have c6:dN W0 px pj mb xs S:=hi.ae (ch.block _ bn.1) (ch.block _ bn.2) (λb hb=>ch.block b (hS b hb).1);have c7:∀x∈xs,x.e.uri.size<=64:=λx hx=>(eP (eb.ok x.e (Kw hx))).2
 have eA:=Z_ (sP W0 px pj mb xs S c6 O_ c7 (w+2) (w+3) O_ O_ k1 O_ (IB (w+1)) (λW hW k M=>by
  rcases M with rfl|⟨v,hv,M⟩
  ·exact⟨by omega,by omega,by omega,by omega⟩
  rw[hW.cell (p:=⟨w+1,0,b_⟩) (by show w.heap.size+1<W0.heap.size;omega),k0.cell]at hv;cases hv;simp[Value.ownBlock]at M))
 have eC:x_ (∀x∈xs,∃A c,x.v=.agg #[g_ x.e.uri,e_ d_ x.e.bu,a_ A x.e.aI.length c]/\bA (·<w.heap.size) w (a_ A x.e.aI.length c) x.e.aI):=Z_ λx hx=>by
  obtain⟨A,c,ev,-,he⟩:=hi.yp x hx;exact⟨A,c,ev,he.ae λg hg=>⟨(hS g hg).1,rfl⟩⟩
 have gi:x_ (∀x∈xs,gF x.e=v_/\(aN x.e).length<=65536):=Z_ λx hx=>⟨eb.ok x.e (Kw hx),b0 x.e (Kw hx)⟩
 have gn:x_ (CI w [] W0):=Z_ ⟨kr,⟨_,[],k0,az.nil W0,by simp⟩,ch,by omega⟩;have J:=Z_ fz;have gp:=Z_ hi;have HJ:=Z_ hj;have HH:=Z_ hH;have HS:=Z_ hS;have HN:=Z_ hn;have HL:=Z_ bn;obtain⟨rows,ba⟩:=N_ ((xs.map (·.e)).map aN);have b2:∀l∈rows,l.length<=65536:=λl hl=>by
  rw[ba]at hl;obtain⟨e,he,rfl⟩:=Lr.1 hl;exact b0 e he
 have e0:rows.length<=20000:=by rw[ba,KL,KL];omega
 rw[<-ba]at hE;have ad:=Z_ ba;have e1:x_ (∀w2 v,n_ w w w2->al (λk=>k<w2.heap.size/\¬F k/\¬G k) w2 v rows->Calls h_ 64 #[i_ (c_ ⟨pj,0,b_⟩),v] w2 λe w'=>∃r,ax (bE (gen+1) (cy rows.length::rows)) (a7 (bV st.files aK)) st=r/\e=k_ (e_ d_ r.2)/\
   dO w2 pj p F G r.1 (if r.2=0 then gen+1 else gen) (if r.2=0 then rows else base) (if r.2=0 then []else log) w'):=Z_ λw2 v hb bo=>Dp (hj.below hb) v rows bo b2 e0 hg hE hc a1 hd eo
 clear b2 e0 ba kr k0 k1 c6 hi hj hH hS hn eb bn ch c7 b0 hE hc a1 hd eo hg;refine(Kg (n:=7)).1 ?_;refine callsIn_of_wp_marks Tryz.func23 rfl trivial ?_ rfl;simp only[Tryz.ntmps23,KB,Jz,JP,Nat.reduceAdd,Nat.reduceSub,KF,KG,KP,KK,Kl,Ka];gi_wp2_with (refine⟨trivial,?_⟩;gi_at_call 60;refine(Kg.2 (zA px _)).mono ?_;rintro e w1 ⟨rfl,rfl⟩)
 rw[<-b1];clear b1;refine wpIn_rangeFunc_ownH (F:=JK) rfl O_ (gf:=104) (lb:=#[i_ (c_ ⟨w+1+1,0,b_⟩)]) rfl trivial (enters_of Tryz.func104 K_ rfl)
  eA.o rk ?hKb B_ (λ_=>rfl)
  (λpre W=>CI w (iD pre) W)
  (λ_ _ _=>False) ?hI ?hIx gn.o
  (Jo w (λ(x:kd xs) bx=>#[i_ (c_ ⟨px,0,b_⟩),q_,i_ (c_ ⟨w,0,b_⟩),i_ (c_ ⟨w+1,0,b_⟩),i_ (c_ ⟨bx,0,b_⟩),q_,q_,i_ (c_ ⟨px,0,b_⟩),.func (.func 104) #[] #[i_ (c_ ⟨w+1+1,0,b_⟩)],x.1.v,q_,q_,q_,q_,q_,q_,q_,q_,q_,q_,q_,q_,q_,q_,q_,q_,q_,q_])) ?hAx ?assign ?body ?done ?stop
 case hKb=>
  intro W l o o' hl e2 gv g8;have:=J.o;refine jU O_ e2 gv (λk M=>?_);rcases M with rfl|⟨v,hv,M⟩
  ·exact .inl rfl
  refine .inr ⟨v,?_,M⟩;rw[D_ (w:=W) (dq W l o' (by show w.heap.size+1≠l;omega))]at hv;exact hv
 case hI=>
  intro pre X Y row hs hg hr;exact hs.walk hg (λr e=>⟨by have:=(hr r e).1;have:=J.o;omega,(hr r e).2⟩)
 case hIx=>
  intro _ _ _ _ _ hs _ _;exact hs
 case hAx=>
  rintro x a' _ X Y row ⟨bx,A,c,h1,h2,h3,h4,h5⟩ hg hr;refine⟨bx,A,c,h1,h2,h3,h4,(hg.block bx (F_ h5) (λe=>?_)).trans h5⟩;obtain⟨o,ho,hc⟩:=(hr bx e.symm).2;rw[h5]at ho;cases ho;cases hc
 case assign=>
  intro l pre x W K a2 t;obtain⟨A5,c5,e5,ck⟩:=eC.o x.1 x.2;have c8:=t {tmps:=#[i_ (c_ ⟨px,0,b_⟩),q_,i_ (c_ ⟨w,0,b_⟩),i_ (c_ ⟨w+1,0,b_⟩),i_ (c_ ⟨W,0,b_⟩),q_,q_,i_ (c_ ⟨px,0,b_⟩),.func (.func 104) #[] #[i_ (c_ ⟨w+1+1,0,b_⟩)],.agg #[g_ x.1.e.uri,e_ d_ x.1.e.bu,a_ A5 x.1.e.aI.length c5],q_,q_,q_,q_,q_,q_,q_,q_,q_,q_,q_,q_,q_,q_,q_,q_,q_,q_],defers:=[]}
   (W.alloc (f_ #[g_ x.1.e.uri,e_ d_ x.1.e.bu,a_ A5 x.1.e.aI.length c5] 55)) ⟨by simp,λk o _ M _=>(z_ _ _ _ (F_ M)).trans M⟩
   ⟨by simp,λk o M _ _=>(z_ _ _ _ (F_ M)).trans M,λk M=>by
    have ha:=a2.size;rcases M with rfl|⟨v,hv,M⟩
    ·exact .inl (.inl rfl)
    refine .inl (.inr ⟨v,?_,M⟩);rw[D_ (w:=W) (a:=⟨w+1,0,b_⟩) (z_ _ _ _ (by show w.heap.size+1<W.heap.size;omega))]at hv;exact hv⟩ (a2.go (ah W _)) ⟨W,A5,c5,a2.size,e5,ck,by dsimp only;rw[e5],r_ W _⟩
  have HF:=Z_ c8;clear t c8;dsimp only[ER];rw[e5];clear e5 ck;gi_wp2;exact HF.o
 case body=>
  rintro l pre x a' W hf gy a2 ⟨bx,A5,c5,hh,e5,ck,rfl,e3⟩ hlen;obtain⟨cb,g7⟩:=gi.o x.1 x.2;obtain⟨v1,cm,e4,b2,e6⟩:=a2.row;have hq:=a2.size;have gz:pre.length<=10000:=by omega
  have c9:=j7 x.1.e (.agg #[g_ x.1.e.uri,e_ d_ x.1.e.bu,a_ A5 x.1.e.aI.length c5]) W ⟨A5,c5,rfl,by have:=eP cb;omega,ck.ae λg (hg:g<w)=>⟨by show g<W;omega,a2.below.block g hg⟩⟩;obtain⟨x0,x1,x2⟩:=aR e3;obtain⟨Al,cl,cf,-,-⟩:=b2.form;have b0:(iD pre).length=pre.length:=by simp[iD]
  rw[b0]at cf;have g0:x_ (Calls h_ 38 #[.agg #[g_ x.1.e.uri,e_ d_ x.1.e.bu,a_ A5 x.1.e.aI.length c5]] W λe w2=>∃A2 c2,e=k_ (.tuple #[a_ A2 (aN x.1.e).length c2,e_ d_ 0])/\x_ (Par.Own w2 W 5 (a_ A2 (aN x.1.e).length c2) (l_ (aN x.1.e)))/\x_ (n_ W W w2)):=Z_ (by
   refine c9.mono ?_;rintro e w2 ⟨v2,rfl,g1,cx,-⟩;have cx:=cx cb;obtain⟨A2,c2,e7⟩:=cx.form;rw[t_]at e7;subst e7;rw[cb];exact⟨A2,c2,rfl,Z_ cx,Z_ g1⟩)
  have ec:=Z_ e4;have cB:=Z_ b2;have e8:=Z_ e6;have HI:=Z_ a2;have ht:cm.length<=10000:=by rw[b2.len,b0];exact gz
  have g2:x_ (iD (pre++[x])=iD pre++[aN x.1.e]):=Z_ (wT pre x);obtain⟨NL,cg⟩:=N_ (pre.length);rw[<-cg]at cf;have hA:=Z_ cg;clear c9 e4 b2 e6 a2 e3 cb ck b0 cg;subst cf;dsimp only;rw[e5];clear e5;gi_wp2_with (refine⟨trivial,?_⟩;gi_at_call 38;refine(CallsIn.inRound l (Kg.2 g0.o)).mono ?_)
  rintro e w2 ⟨A2,c2,rfl,g3,cp⟩;have hB:=cp.o.size;have q3:w2.cell? ⟨w+1,0,b_⟩=c_ (a_ Al NL cl):=(cp.o.cell (p:=⟨w+1,0,b_⟩) (by show w.heap.size+1<W.heap.size;omega)).trans ec.o.cell;have cr:Par.Own (w2.alloc (f_ #[a_ A2 (aN x.1.e).length c2] 24)) (w+3) 24 (a_ Al NL cl) cm:=by
   have h1:=(az.below (R:=g9) g9.ae cB.o cp.o).own;rw[kH e8.o,<-cB.o.len]at h1;exact Par.Own.alloc (show Par.Own w2 (w+3) 24 (a_ Al NL cl) cm from h1) _
  have g4:x_ (w.heap.size+3<=(w2.alloc (f_ #[a_ A2 (aN x.1.e).length c2] 24)).heap.size):=Z_ (by simp;omega);have b3:x_ (cm.length+[a_ A2 (aN x.1.e).length c2].length<=2147483648):=Z_ (by simp;omega);have df:=bw.new w2 24 #[a_ A2 (aN x.1.e).length c2] [a_ A2 (aN x.1.e).length c2] rfl (by simp[maxLen]);clear x0 x1 x2;gi_wp2_with (gi_at_builtin;refine nM _ rfl _ _ 22 rfl (w+3) 24 _ j8 _ _ rfl cr _ _ _ rfl df (λy hy=>by simp at hy;subst hy;rfl) b3.o g4.o ?_)
  intro v3 w3 b5 ee dv;have g5:=Z_ (HI.o.next rfl ec.o cB.o e8.o cp.o g3.o b5 ee (by simpa using dv));have eg:Boxed w3 (w+1) 22 (a_ Al NL cl):=(ee.block _ (by simp;omega) (λe=>by have:=(cB.o.own.lt _ e.symm).1;omega)).trans ((z_ _ _ _ O_).trans ((cp.o.block _ O_).trans ec.o));have ct:=eg.frozen;have cu:=eg.cell;obtain⟨A3,c3,e9⟩:=b5.form;have fb:v3=a_ A3 (cm.length+1) c3:=by rw[e9,p_];rfl
  clear b5 ee dv eg cr df q3 e9;subst fb;gi_wp2;have:=g5.o;rw[<-g2.o]at this;rw[J.o];exact this
 case done=>
  rintro D ys W hD rfl a2 t;have hF:=hD;have hY:=a2.walk (grownBy_putObj' W D (.deferred b_)) (λr e=>by cases e;exact⟨by have:=J.o;omega,_,t,rfl⟩);obtain⟨v,us,hv,hr,fi⟩:=a2.row;obtain⟨Al,cl,cf,-,-⟩:=hr.form;obtain⟨NL,cg⟩:=N_ ((iD xs.attach).length);rw[<-cg]at cf;subst cf;have hz:=a2.size;have bn:=HL.o;have b6:=a2.below;have en:dN W px pj mb xs S:=gp.o.ae (b6.block _ bn.1) (b6.block _ bn.2) (λb hb=>b6.block b (HS.o b hb).1);have g6:x_ (∀W':j_,W'.heap[px]?=W.heap[px]?->W'.heap[w.heap.size+1]?=W.heap[w.heap.size+1]?->W'.cell? ⟨px,0,b_⟩=c_ (i_ (c_ ⟨pj,0,b_⟩))/\W'.cell? ⟨w+1,0,b_⟩=c_ (a_ Al NL cl)):=Z_ λW' h1 h2=>⟨by simp[E_,h1,en.head],Boxed.cell (h2.trans hv)⟩
  have I:=Z_ (g6.o W.drew rfl rfl);have bo:al (λg=>w.heap.size+3<=g/\g<W.heap.size) W (a_ Al NL cl) rows:=by
   have h1:=az.AG hr (λu hu=>by obtain⟨A,n,c,e⟩:=fi u hu;rw[e];rfl);rw[yQ,<-ad.o]at h1;have h2:al (λg=>((w.heap.size+3<=g\/w.heap.size+3<=g)/\g<W.heap.size)) W (a_ Al NL cl) rows:=h1;exact h2.ae λb hb=>⟨⟨by omega,hb.2⟩,rfl⟩
  have hG:=Z_ bo;have cv:=Z_ (e1.o W.drew (a_ Al NL cl) (b6.trans ((JG w W).drew)) (bo.ae λb hb=>⟨⟨hb.2,λh=>by have:=HJ.o.fs.lt b h;omega,λh=>by have:=HJ.o.js.lt b h;omega⟩,rfl⟩));have hJ:=Z_ b6;have HI:=Z_ a2;have bR:=Z_ en;have b3:x_ (n_ w w W.drew):=Z_ (b6.trans ((JG w W).drew));have HK:=Z_ t;clear a2 hv hr fi en bo b6 hY cg t;gi_wp2;refine sb (n:=7) (by decide) (S:=λw2:j_=>w2.cell? ⟨px,0,b_⟩=c_ (i_ (c_ ⟨pj,0,b_⟩))/\w2.cell? ⟨w+1,0,b_⟩=c_ (a_ Al NL cl)) K_ K_ (by rintro⟨a9,w9,h⟩;have h2:P .outgrown w9:=h;rw[cd.o]at h2;obtain⟨r,_,e,_⟩:=h2;cases e) ?_;refine K3 (rs:=[0,4]) K_ (by simp) ?_;intro i hi;simp only[JL,Ky,Lw]at hi;rcases hi with rfl|rfl
  ·refine cA rfl rfl (λK t=>?_)
   obtain⟨s0,s1⟩:=I.o;go_simp;clear s0 s1;refine t _ _ ⟨I.o,?_⟩;clear t K;refine K3 (rs:=[1,4]) K_ (by simp) ?_;intro i hi;simp only[JL,Ky,Lw]at hi;rcases hi with rfl|rfl
   ·refine cA rfl rfl (λK t=>?_)
    obtain⟨s0,s1⟩:=I.o;go_simp;clear s0 s1;refine t _ _ ⟨I.o,?_⟩;clear t K;refine K3 (rs:=[2,4]) K_ (by simp) ?_;intro i hi;simp only[JL,Ky,Lw]at hi;rcases hi with rfl|rfl
    ·refine cA rfl rfl (λK t=>?_)
     obtain⟨s0,s1⟩:=I.o;go_simp;clear s0 s1;refine t _ _ ⟨I.o,?_⟩;clear t K;refine K3 (rs:=[3,4]) K_ (by simp) ?_;intro i hi;simp only[JL,Ky,Lw]at hi;rcases hi with rfl|rfl
     ·refine cA rfl rfl (λK t=>?_)
      obtain⟨s0,s1⟩:=I.o;go_simp;clear s0 s1;refine t _ _ ⟨I.o,?_⟩;clear t K;refine ag 4 λK t=>?_
      obtain⟨s0,s1⟩:=I.o;go_simp;clear s0 s1;refine t _ _ ⟨I.o,?_⟩;clear t K;refine ag 5 λK t=>?_
      go_simp;refine cv.o.mono ?_;rintro e w3 ⟨r,hr,rfl,bb⟩;have bn:=HL.o;have cE:w.heap.size+3<=W.heap.size:=HI.o.size;have bp:∀k,S k->k<W.drew.heap.size/\¬F k/\¬H k:=λk M=>⟨by have:=(HS.o k M).1;show k<W;omega,(HS.o k M).2⟩
      obtain⟨O,U⟩:=cW.iN (w:=W.drew) B_ (bR.o.ae (w':=W.drew) rfl rfl (λ_ _=>rfl)) HH.o bp HN.o ⟨by show px<W;omega,by show mb<W;omega⟩ bb;have bd:=Z_ O;have cc:=Z_ U;obtain⟨F3,G3,-,ak,-,-⟩:=bb;have cF:W.heap.size<=w3.heap.size:=ak.size;have own:∀k,w.heap.size<=k->k<W.heap.size->w3.heap[k]?=W.heap[k]?:=λk h1 h2=>ak.block k h2 (λh=>by
       rcases h with h|h
       ·have:=HJ.o.fs.lt k h;omega
       have:=HJ.o.js.lt k h;omega)
      have j:w3.heap[w.heap.size]?=c_ (f_ #[e_ d_ 0] 28 (0,0)):=(own _ L_ O_).trans HI.o.res;have bf:w3.heap[D]?=c_ (.deferred (c_ [])):=(own D (by have:=J.o;omega) (F_ HK.o)).trans HK.o;have V:w3.cell? ⟨w+1,0,b_⟩=c_ (a_ Al NL cl):=by
       rw[D_ (w:=W) (a:=⟨w+1,0,b_⟩) (own (w+1) O_ O_)];exact I.o.2
      have av:x_ (w3.cell? ⟨px,0,b_⟩=c_ (i_ (c_ ⟨pj,0,b_⟩))/\w3.cell? ⟨w+1,0,b_⟩=c_ (a_ Al NL cl)):=Z_ ⟨by simp[E_,U.head],V⟩;have bt:x_ ((w3.setCell ⟨w,0,b_⟩ (e_ d_ r.2)).cell? ⟨px,0,b_⟩=c_ (i_ (c_ ⟨pj,0,b_⟩))/\(w3.setCell ⟨w,0,b_⟩ (e_ d_ r.2)).cell? ⟨w+1,0,b_⟩=c_ (a_ Al NL cl)):=Z_ ⟨(D_ (w:=w3) (a:=⟨px,0,b_⟩) (ab (a:=⟨w,0,b_⟩) (show px≠w.heap.size by omega))).trans av.o.1,(D_ (w:=w3) (a:=⟨w+1,0,b_⟩) (ab (a:=⟨w,0,b_⟩) (show w.heap.size+1≠w.heap.size by omega))).trans av.o.2⟩;have bg:=dk (x:=e_ d_ r.2) j;have bj:(w3.setCell ⟨w,0,b_⟩ (e_ d_ r.2)).heap[D]?=c_ (.deferred (c_ [])):=(ab (a:=⟨w,0,b_⟩) (show D≠w.heap.size by have:=J.o;omega)).trans bf;have cu:w3.cell? ⟨w,0,b_⟩=c_ (e_ d_ 0):=by simp[E_,j]
      have ct:w3.frozen? ⟨w,0,b_⟩=false:=by simp[JW,j]
      obtain⟨Wf,Z⟩:=N_ ((w3.setCell ⟨w,0,b_⟩ (e_ d_ r.2)).putObj D (.deferred b_));have a1:Kept (λk=>w.heap.size<=k/\k<W.drew.heap.size) w3 Wf:=by
       rw[Z];have h1:Kept (λk=>w.heap.size<=k/\k<W.drew.heap.size) w3 (w3.setCell ⟨w,0,b_⟩ (e_ d_ r.2)):=(Kept.refl _ _).setCell (p:=⟨w,0,b_⟩) (.inl ⟨Kh _,by show w.heap.size<W.heap.size;omega⟩) _;exact h1.grown (grownBy_putObj' _ D _) (λk e=>by cases e;exact .inl ⟨by have:=J.o;omega,by have:=F_ HK.o;exact this⟩)
      have bk:Wf.cell? ⟨w,0,b_⟩=c_ (e_ d_ r.2):=by
       have h1:Wf.heap[w.heap.size]?=c_ (f_ #[e_ d_ r.2] 28 (0,0)):=by
        rw[Z,dq _ D _ (show w.heap.size≠D by have:=J.o;omega)];exact bg
       simp[E_,h1]
      have bm:x_ (P (k_ (e_ d_ r.2)) Wf):=Z_ (by
       rw[cd.o];refine⟨r,by rw[<-ad.o];exact hr,rfl,?_⟩;rw[<-ad.o];refine cW.over b3.o (λk M=>?_) bd.o a1;rcases M with M|M|M
       ·exact HJ.o.fs.lt k M
       ·rcases(HH.o k).1 M with h|h|h
        ·exact HJ.o.js.lt k h
        ·omega
        omega
       exact(HS.o k M).1)
      have bB:=Z_ Z;have bN:=Z_ bk;have bO:=Z_ bj;clear O U ak own j bf V bg bj a1 bk Z hr;refine t _ _ ⟨av.o,?_⟩;clear t K;refine ag 6 λK t=>?_
      go_simp;refine t _ _ ⟨bt.o,?_⟩;clear t K;refine J6 K_ ?_ _;gi_wp2;refine⟨by simp,.inl ⟨_,_,rfl,run_takeDeferred bO.o,?_⟩⟩;rw[<-bB.o];refine⟨e_ d_ r.2,?_,bm.o⟩;have:=bN.o;simp[results,Tryz.results23,go_sem,this]
     refine cA rfl rfl (λK t=>?_);obtain⟨s0,s1⟩:=I.o;go_simp;clear s0 s1;refine t _ _ ⟨I.o,?_⟩;clear t K;refine ag 3 λK t=>?_
     obtain⟨s0,s1⟩:=I.o;go_simp;clear s0 s1;refine t _ _ ⟨I.o,?_⟩;clear t K;refine ag 5 λK t=>?_
     go_simp;refine cv.o.mono ?_;rintro e w3 ⟨r,hr,rfl,bb⟩;have bn:=HL.o;have cE:w.heap.size+3<=W.heap.size:=HI.o.size;have bp:∀k,S k->k<W.drew.heap.size/\¬F k/\¬H k:=λk M=>⟨by have:=(HS.o k M).1;show k<W;omega,(HS.o k M).2⟩
     obtain⟨O,U⟩:=cW.iN (w:=W.drew) B_ (bR.o.ae (w':=W.drew) rfl rfl (λ_ _=>rfl)) HH.o bp HN.o ⟨by show px<W;omega,by show mb<W;omega⟩ bb;have bd:=Z_ O;have cc:=Z_ U;obtain⟨F3,G3,-,ak,-,-⟩:=bb;have cF:W.heap.size<=w3.heap.size:=ak.size;have own:∀k,w.heap.size<=k->k<W.heap.size->w3.heap[k]?=W.heap[k]?:=λk h1 h2=>ak.block k h2 (λh=>by
      rcases h with h|h
      ·have:=HJ.o.fs.lt k h;omega
      have:=HJ.o.js.lt k h;omega)
     have j:w3.heap[w.heap.size]?=c_ (f_ #[e_ d_ 0] 28 (0,0)):=(own _ L_ O_).trans HI.o.res;have bf:w3.heap[D]?=c_ (.deferred (c_ [])):=(own D (by have:=J.o;omega) (F_ HK.o)).trans HK.o;have V:w3.cell? ⟨w+1,0,b_⟩=c_ (a_ Al NL cl):=by
      rw[D_ (w:=W) (a:=⟨w+1,0,b_⟩) (own (w+1) O_ O_)];exact I.o.2
     have av:x_ (w3.cell? ⟨px,0,b_⟩=c_ (i_ (c_ ⟨pj,0,b_⟩))/\w3.cell? ⟨w+1,0,b_⟩=c_ (a_ Al NL cl)):=Z_ ⟨by simp[E_,U.head],V⟩;have bt:x_ ((w3.setCell ⟨w,0,b_⟩ (e_ d_ r.2)).cell? ⟨px,0,b_⟩=c_ (i_ (c_ ⟨pj,0,b_⟩))/\(w3.setCell ⟨w,0,b_⟩ (e_ d_ r.2)).cell? ⟨w+1,0,b_⟩=c_ (a_ Al NL cl)):=Z_ ⟨(D_ (w:=w3) (a:=⟨px,0,b_⟩) (ab (a:=⟨w,0,b_⟩) (show px≠w.heap.size by omega))).trans av.o.1,(D_ (w:=w3) (a:=⟨w+1,0,b_⟩) (ab (a:=⟨w,0,b_⟩) (show w.heap.size+1≠w.heap.size by omega))).trans av.o.2⟩;have bg:=dk (x:=e_ d_ r.2) j;have bj:(w3.setCell ⟨w,0,b_⟩ (e_ d_ r.2)).heap[D]?=c_ (.deferred (c_ [])):=(ab (a:=⟨w,0,b_⟩) (show D≠w.heap.size by have:=J.o;omega)).trans bf;have cu:w3.cell? ⟨w,0,b_⟩=c_ (e_ d_ 0):=by simp[E_,j]
     have ct:w3.frozen? ⟨w,0,b_⟩=false:=by simp[JW,j]
     obtain⟨Wf,Z⟩:=N_ ((w3.setCell ⟨w,0,b_⟩ (e_ d_ r.2)).putObj D (.deferred b_));have a1:Kept (λk=>w.heap.size<=k/\k<W.drew.heap.size) w3 Wf:=by
      rw[Z];have h1:Kept (λk=>w.heap.size<=k/\k<W.drew.heap.size) w3 (w3.setCell ⟨w,0,b_⟩ (e_ d_ r.2)):=(Kept.refl _ _).setCell (p:=⟨w,0,b_⟩) (.inl ⟨Kh _,by show w.heap.size<W.heap.size;omega⟩) _;exact h1.grown (grownBy_putObj' _ D _) (λk e=>by cases e;exact .inl ⟨by have:=J.o;omega,by have:=F_ HK.o;exact this⟩)
     have bk:Wf.cell? ⟨w,0,b_⟩=c_ (e_ d_ r.2):=by
      have h1:Wf.heap[w.heap.size]?=c_ (f_ #[e_ d_ r.2] 28 (0,0)):=by
       rw[Z,dq _ D _ (show w.heap.size≠D by have:=J.o;omega)];exact bg
      simp[E_,h1]
     have bm:x_ (P (k_ (e_ d_ r.2)) Wf):=Z_ (by
      rw[cd.o];refine⟨r,by rw[<-ad.o];exact hr,rfl,?_⟩;rw[<-ad.o];refine cW.over b3.o (λk M=>?_) bd.o a1;rcases M with M|M|M
      ·exact HJ.o.fs.lt k M
      ·rcases(HH.o k).1 M with h|h|h
       ·exact HJ.o.js.lt k h
       ·omega
       omega
      exact(HS.o k M).1)
     have bB:=Z_ Z;have bN:=Z_ bk;have bO:=Z_ bj;clear O U ak own j bf V bg bj a1 bk Z hr;refine t _ _ ⟨av.o,?_⟩;clear t K;refine ag 6 λK t=>?_
     go_simp;refine t _ _ ⟨bt.o,?_⟩;clear t K;refine J6 K_ ?_ _;gi_wp2;refine⟨by simp,.inl ⟨_,_,rfl,run_takeDeferred bO.o,?_⟩⟩;rw[<-bB.o];refine⟨e_ d_ r.2,?_,bm.o⟩;have:=bN.o;simp[results,Tryz.results23,go_sem,this]
    refine cA rfl rfl (λK t=>?_);obtain⟨s0,s1⟩:=I.o;go_simp;clear s0 s1;refine t _ _ ⟨I.o,?_⟩;clear t K;refine ag 2 λK t=>?_
    obtain⟨s0,s1⟩:=I.o;go_simp;clear s0 s1;refine t _ _ ⟨I.o,?_⟩;clear t K;refine ag 3 λK t=>?_
    obtain⟨s0,s1⟩:=I.o;go_simp;clear s0 s1;refine t _ _ ⟨I.o,?_⟩;clear t K;refine ag 5 λK t=>?_
    go_simp;refine cv.o.mono ?_;rintro e w3 ⟨r,hr,rfl,bb⟩;have bn:=HL.o;have cE:w.heap.size+3<=W.heap.size:=HI.o.size;have bp:∀k,S k->k<W.drew.heap.size/\¬F k/\¬H k:=λk M=>⟨by have:=(HS.o k M).1;show k<W;omega,(HS.o k M).2⟩
    obtain⟨O,U⟩:=cW.iN (w:=W.drew) B_ (bR.o.ae (w':=W.drew) rfl rfl (λ_ _=>rfl)) HH.o bp HN.o ⟨by show px<W;omega,by show mb<W;omega⟩ bb;have bd:=Z_ O;have cc:=Z_ U;obtain⟨F3,G3,-,ak,-,-⟩:=bb;have cF:W.heap.size<=w3.heap.size:=ak.size;have own:∀k,w.heap.size<=k->k<W.heap.size->w3.heap[k]?=W.heap[k]?:=λk h1 h2=>ak.block k h2 (λh=>by
     rcases h with h|h
     ·have:=HJ.o.fs.lt k h;omega
     have:=HJ.o.js.lt k h;omega)
    have j:w3.heap[w.heap.size]?=c_ (f_ #[e_ d_ 0] 28 (0,0)):=(own _ L_ O_).trans HI.o.res;have bf:w3.heap[D]?=c_ (.deferred (c_ [])):=(own D (by have:=J.o;omega) (F_ HK.o)).trans HK.o;have V:w3.cell? ⟨w+1,0,b_⟩=c_ (a_ Al NL cl):=by
     rw[D_ (w:=W) (a:=⟨w+1,0,b_⟩) (own (w+1) O_ O_)];exact I.o.2
    have av:x_ (w3.cell? ⟨px,0,b_⟩=c_ (i_ (c_ ⟨pj,0,b_⟩))/\w3.cell? ⟨w+1,0,b_⟩=c_ (a_ Al NL cl)):=Z_ ⟨by simp[E_,U.head],V⟩;have bt:x_ ((w3.setCell ⟨w,0,b_⟩ (e_ d_ r.2)).cell? ⟨px,0,b_⟩=c_ (i_ (c_ ⟨pj,0,b_⟩))/\(w3.setCell ⟨w,0,b_⟩ (e_ d_ r.2)).cell? ⟨w+1,0,b_⟩=c_ (a_ Al NL cl)):=Z_ ⟨(D_ (w:=w3) (a:=⟨px,0,b_⟩) (ab (a:=⟨w,0,b_⟩) (show px≠w.heap.size by omega))).trans av.o.1,(D_ (w:=w3) (a:=⟨w+1,0,b_⟩) (ab (a:=⟨w,0,b_⟩) (show w.heap.size+1≠w.heap.size by omega))).trans av.o.2⟩;have bg:=dk (x:=e_ d_ r.2) j;have bj:(w3.setCell ⟨w,0,b_⟩ (e_ d_ r.2)).heap[D]?=c_ (.deferred (c_ [])):=(ab (a:=⟨w,0,b_⟩) (show D≠w.heap.size by have:=J.o;omega)).trans bf;have cu:w3.cell? ⟨w,0,b_⟩=c_ (e_ d_ 0):=by simp[E_,j]
    have ct:w3.frozen? ⟨w,0,b_⟩=false:=by simp[JW,j]
    obtain⟨Wf,Z⟩:=N_ ((w3.setCell ⟨w,0,b_⟩ (e_ d_ r.2)).putObj D (.deferred b_));have a1:Kept (λk=>w.heap.size<=k/\k<W.drew.heap.size) w3 Wf:=by
     rw[Z];have h1:Kept (λk=>w.heap.size<=k/\k<W.drew.heap.size) w3 (w3.setCell ⟨w,0,b_⟩ (e_ d_ r.2)):=(Kept.refl _ _).setCell (p:=⟨w,0,b_⟩) (.inl ⟨Kh _,by show w.heap.size<W.heap.size;omega⟩) _;exact h1.grown (grownBy_putObj' _ D _) (λk e=>by cases e;exact .inl ⟨by have:=J.o;omega,by have:=F_ HK.o;exact this⟩)
    have bk:Wf.cell? ⟨w,0,b_⟩=c_ (e_ d_ r.2):=by
     have h1:Wf.heap[w.heap.size]?=c_ (f_ #[e_ d_ r.2] 28 (0,0)):=by
      rw[Z,dq _ D _ (show w.heap.size≠D by have:=J.o;omega)];exact bg
     simp[E_,h1]
    have bm:x_ (P (k_ (e_ d_ r.2)) Wf):=Z_ (by
     rw[cd.o];refine⟨r,by rw[<-ad.o];exact hr,rfl,?_⟩;rw[<-ad.o];refine cW.over b3.o (λk M=>?_) bd.o a1;rcases M with M|M|M
     ·exact HJ.o.fs.lt k M
     ·rcases(HH.o k).1 M with h|h|h
      ·exact HJ.o.js.lt k h
      ·omega
      omega
     exact(HS.o k M).1)
    have bB:=Z_ Z;have bN:=Z_ bk;have bO:=Z_ bj;clear O U ak own j bf V bg bj a1 bk Z hr;refine t _ _ ⟨av.o,?_⟩;clear t K;refine ag 6 λK t=>?_
    go_simp;refine t _ _ ⟨bt.o,?_⟩;clear t K;refine J6 K_ ?_ _;gi_wp2;refine⟨by simp,.inl ⟨_,_,rfl,run_takeDeferred bO.o,?_⟩⟩;rw[<-bB.o];refine⟨e_ d_ r.2,?_,bm.o⟩;have:=bN.o;simp[results,Tryz.results23,go_sem,this]
   refine cA rfl rfl (λK t=>?_);obtain⟨s0,s1⟩:=I.o;go_simp;clear s0 s1;refine t _ _ ⟨I.o,?_⟩;clear t K;refine ag 1 λK t=>?_
   obtain⟨s0,s1⟩:=I.o;go_simp;clear s0 s1;refine t _ _ ⟨I.o,?_⟩;clear t K;refine ag 2 λK t=>?_
   obtain⟨s0,s1⟩:=I.o;go_simp;clear s0 s1;refine t _ _ ⟨I.o,?_⟩;clear t K;refine ag 3 λK t=>?_
   obtain⟨s0,s1⟩:=I.o;go_simp;clear s0 s1;refine t _ _ ⟨I.o,?_⟩;clear t K;refine ag 5 λK t=>?_
   go_simp;refine cv.o.mono ?_;rintro e w3 ⟨r,hr,rfl,bb⟩;have bn:=HL.o;have cE:w.heap.size+3<=W.heap.size:=HI.o.size;have bp:∀k,S k->k<W.drew.heap.size/\¬F k/\¬H k:=λk M=>⟨by have:=(HS.o k M).1;show k<W;omega,(HS.o k M).2⟩
   obtain⟨O,U⟩:=cW.iN (w:=W.drew) B_ (bR.o.ae (w':=W.drew) rfl rfl (λ_ _=>rfl)) HH.o bp HN.o ⟨by show px<W;omega,by show mb<W;omega⟩ bb;have bd:=Z_ O;have cc:=Z_ U;obtain⟨F3,G3,-,ak,-,-⟩:=bb;have cF:W.heap.size<=w3.heap.size:=ak.size;have own:∀k,w.heap.size<=k->k<W.heap.size->w3.heap[k]?=W.heap[k]?:=λk h1 h2=>ak.block k h2 (λh=>by
    rcases h with h|h
    ·have:=HJ.o.fs.lt k h;omega
    have:=HJ.o.js.lt k h;omega)
   have j:w3.heap[w.heap.size]?=c_ (f_ #[e_ d_ 0] 28 (0,0)):=(own _ L_ O_).trans HI.o.res;have bf:w3.heap[D]?=c_ (.deferred (c_ [])):=(own D (by have:=J.o;omega) (F_ HK.o)).trans HK.o;have V:w3.cell? ⟨w+1,0,b_⟩=c_ (a_ Al NL cl):=by
    rw[D_ (w:=W) (a:=⟨w+1,0,b_⟩) (own (w+1) O_ O_)];exact I.o.2
   have av:x_ (w3.cell? ⟨px,0,b_⟩=c_ (i_ (c_ ⟨pj,0,b_⟩))/\w3.cell? ⟨w+1,0,b_⟩=c_ (a_ Al NL cl)):=Z_ ⟨by simp[E_,U.head],V⟩;have bt:x_ ((w3.setCell ⟨w,0,b_⟩ (e_ d_ r.2)).cell? ⟨px,0,b_⟩=c_ (i_ (c_ ⟨pj,0,b_⟩))/\(w3.setCell ⟨w,0,b_⟩ (e_ d_ r.2)).cell? ⟨w+1,0,b_⟩=c_ (a_ Al NL cl)):=Z_ ⟨(D_ (w:=w3) (a:=⟨px,0,b_⟩) (ab (a:=⟨w,0,b_⟩) (show px≠w.heap.size by omega))).trans av.o.1,(D_ (w:=w3) (a:=⟨w+1,0,b_⟩) (ab (a:=⟨w,0,b_⟩) (show w.heap.size+1≠w.heap.size by omega))).trans av.o.2⟩;have bg:=dk (x:=e_ d_ r.2) j;have bj:(w3.setCell ⟨w,0,b_⟩ (e_ d_ r.2)).heap[D]?=c_ (.deferred (c_ [])):=(ab (a:=⟨w,0,b_⟩) (show D≠w.heap.size by have:=J.o;omega)).trans bf;have cu:w3.cell? ⟨w,0,b_⟩=c_ (e_ d_ 0):=by simp[E_,j]
   have ct:w3.frozen? ⟨w,0,b_⟩=false:=by simp[JW,j]
   obtain⟨Wf,Z⟩:=N_ ((w3.setCell ⟨w,0,b_⟩ (e_ d_ r.2)).putObj D (.deferred b_));have a1:Kept (λk=>w.heap.size<=k/\k<W.drew.heap.size) w3 Wf:=by
    rw[Z];have h1:Kept (λk=>w.heap.size<=k/\k<W.drew.heap.size) w3 (w3.setCell ⟨w,0,b_⟩ (e_ d_ r.2)):=(Kept.refl _ _).setCell (p:=⟨w,0,b_⟩) (.inl ⟨Kh _,by show w.heap.size<W.heap.size;omega⟩) _;exact h1.grown (grownBy_putObj' _ D _) (λk e=>by cases e;exact .inl ⟨by have:=J.o;omega,by have:=F_ HK.o;exact this⟩)
   have bk:Wf.cell? ⟨w,0,b_⟩=c_ (e_ d_ r.2):=by
    have h1:Wf.heap[w.heap.size]?=c_ (f_ #[e_ d_ r.2] 28 (0,0)):=by
     rw[Z,dq _ D _ (show w.heap.size≠D by have:=J.o;omega)];exact bg
    simp[E_,h1]
   have bm:x_ (P (k_ (e_ d_ r.2)) Wf):=Z_ (by
    rw[cd.o];refine⟨r,by rw[<-ad.o];exact hr,rfl,?_⟩;rw[<-ad.o];refine cW.over b3.o (λk M=>?_) bd.o a1;rcases M with M|M|M
    ·exact HJ.o.fs.lt k M
    ·rcases(HH.o k).1 M with h|h|h
     ·exact HJ.o.js.lt k h
     ·omega
     omega
    exact(HS.o k M).1)
   have bB:=Z_ Z;have bN:=Z_ bk;have bO:=Z_ bj;clear O U ak own j bf V bg bj a1 bk Z hr;refine t _ _ ⟨av.o,?_⟩;clear t K;refine ag 6 λK t=>?_
   go_simp;refine t _ _ ⟨bt.o,?_⟩;clear t K;refine J6 K_ ?_ _;gi_wp2;refine⟨by simp,.inl ⟨_,_,rfl,run_takeDeferred bO.o,?_⟩⟩;rw[<-bB.o];refine⟨e_ d_ r.2,?_,bm.o⟩;have:=bN.o;simp[results,Tryz.results23,go_sem,this]
  refine cA rfl rfl (λK t=>?_);obtain⟨s0,s1⟩:=I.o;go_simp;clear s0 s1;refine t _ _ ⟨I.o,?_⟩;clear t K;refine ag 0 λK t=>?_
  obtain⟨s0,s1⟩:=I.o;go_simp;clear s0 s1;refine t _ _ ⟨I.o,?_⟩;clear t K;refine ag 1 λK t=>?_
  obtain⟨s0,s1⟩:=I.o;go_simp;clear s0 s1;refine t _ _ ⟨I.o,?_⟩;clear t K;refine ag 2 λK t=>?_
  obtain⟨s0,s1⟩:=I.o;go_simp;clear s0 s1;refine t _ _ ⟨I.o,?_⟩;clear t K;refine ag 3 λK t=>?_
  obtain⟨s0,s1⟩:=I.o;go_simp;clear s0 s1;refine t _ _ ⟨I.o,?_⟩;clear t K;refine ag 5 λK t=>?_
  go_simp;refine cv.o.mono ?_;rintro e w3 ⟨r,hr,rfl,bb⟩;have bn:=HL.o;have cE:w.heap.size+3<=W.heap.size:=HI.o.size;have bp:∀k,S k->k<W.drew.heap.size/\¬F k/\¬H k:=λk M=>⟨by have:=(HS.o k M).1;show k<W;omega,(HS.o k M).2⟩
  obtain⟨O,U⟩:=cW.iN (w:=W.drew) B_ (bR.o.ae (w':=W.drew) rfl rfl (λ_ _=>rfl)) HH.o bp HN.o ⟨by show px<W;omega,by show mb<W;omega⟩ bb;have bd:=Z_ O;have cc:=Z_ U;obtain⟨F3,G3,-,ak,-,-⟩:=bb;have cF:W.heap.size<=w3.heap.size:=ak.size;have own:∀k,w.heap.size<=k->k<W.heap.size->w3.heap[k]?=W.heap[k]?:=λk h1 h2=>ak.block k h2 (λh=>by
   rcases h with h|h
   ·have:=HJ.o.fs.lt k h;omega
   have:=HJ.o.js.lt k h;omega)
  have j:w3.heap[w.heap.size]?=c_ (f_ #[e_ d_ 0] 28 (0,0)):=(own _ L_ O_).trans HI.o.res;have bf:w3.heap[D]?=c_ (.deferred (c_ [])):=(own D (by have:=J.o;omega) (F_ HK.o)).trans HK.o;have V:w3.cell? ⟨w+1,0,b_⟩=c_ (a_ Al NL cl):=by
   rw[D_ (w:=W) (a:=⟨w+1,0,b_⟩) (own (w+1) O_ O_)];exact I.o.2
  have av:x_ (w3.cell? ⟨px,0,b_⟩=c_ (i_ (c_ ⟨pj,0,b_⟩))/\w3.cell? ⟨w+1,0,b_⟩=c_ (a_ Al NL cl)):=Z_ ⟨by simp[E_,U.head],V⟩;have bt:x_ ((w3.setCell ⟨w,0,b_⟩ (e_ d_ r.2)).cell? ⟨px,0,b_⟩=c_ (i_ (c_ ⟨pj,0,b_⟩))/\(w3.setCell ⟨w,0,b_⟩ (e_ d_ r.2)).cell? ⟨w+1,0,b_⟩=c_ (a_ Al NL cl)):=Z_ ⟨(D_ (w:=w3) (a:=⟨px,0,b_⟩) (ab (a:=⟨w,0,b_⟩) (show px≠w.heap.size by omega))).trans av.o.1,(D_ (w:=w3) (a:=⟨w+1,0,b_⟩) (ab (a:=⟨w,0,b_⟩) (show w.heap.size+1≠w.heap.size by omega))).trans av.o.2⟩;have bg:=dk (x:=e_ d_ r.2) j;have bj:(w3.setCell ⟨w,0,b_⟩ (e_ d_ r.2)).heap[D]?=c_ (.deferred (c_ [])):=(ab (a:=⟨w,0,b_⟩) (show D≠w.heap.size by have:=J.o;omega)).trans bf;have cu:w3.cell? ⟨w,0,b_⟩=c_ (e_ d_ 0):=by simp[E_,j]
  have ct:w3.frozen? ⟨w,0,b_⟩=false:=by simp[JW,j]
  obtain⟨Wf,Z⟩:=N_ ((w3.setCell ⟨w,0,b_⟩ (e_ d_ r.2)).putObj D (.deferred b_));have a1:Kept (λk=>w.heap.size<=k/\k<W.drew.heap.size) w3 Wf:=by
   rw[Z];have h1:Kept (λk=>w.heap.size<=k/\k<W.drew.heap.size) w3 (w3.setCell ⟨w,0,b_⟩ (e_ d_ r.2)):=(Kept.refl _ _).setCell (p:=⟨w,0,b_⟩) (.inl ⟨Kh _,by show w.heap.size<W.heap.size;omega⟩) _;exact h1.grown (grownBy_putObj' _ D _) (λk e=>by cases e;exact .inl ⟨by have:=J.o;omega,by have:=F_ HK.o;exact this⟩)
  have bk:Wf.cell? ⟨w,0,b_⟩=c_ (e_ d_ r.2):=by
   have h1:Wf.heap[w.heap.size]?=c_ (f_ #[e_ d_ r.2] 28 (0,0)):=by
    rw[Z,dq _ D _ (show w.heap.size≠D by have:=J.o;omega)];exact bg
   simp[E_,h1]
  have bm:x_ (P (k_ (e_ d_ r.2)) Wf):=Z_ (by
   rw[cd.o];refine⟨r,by rw[<-ad.o];exact hr,rfl,?_⟩;rw[<-ad.o];refine cW.over b3.o (λk M=>?_) bd.o a1;rcases M with M|M|M
   ·exact HJ.o.fs.lt k M
   ·rcases(HH.o k).1 M with h|h|h
    ·exact HJ.o.js.lt k h
    ·omega
    omega
   exact(HS.o k M).1)
  have bB:=Z_ Z;have bN:=Z_ bk;have bO:=Z_ bj;clear O U ak own j bf V bg bj a1 bk Z hr;refine t _ _ ⟨av.o,?_⟩;clear t K;refine ag 6 λK t=>?_
  go_simp;refine t _ _ ⟨bt.o,?_⟩;clear t K;refine J6 K_ ?_ _;gi_wp2;refine⟨by simp,.inl ⟨_,_,rfl,run_takeDeferred bO.o,?_⟩⟩;rw[<-bB.o];refine⟨e_ d_ r.2,?_,bm.o⟩;have:=bN.o;simp[results,Tryz.results23,go_sem,this]
 rintro D c pre W _ _ h _;exact h.elim
end Go.Proofs.YtaalbcfpacpgfaaGreat
namespace Go.Ix
open Go.RowKit Go.Lib Go.Vfs Go.Par Go.Typ Go.Proofs.YtaalbcfpacpgfaaGreat
theorem nK(a:Ty)(ts:List Ty)(j n:Int):cG (a::ts) j n=if n<=j then cG ts j (n+cz a (j - n))else n:=by rw[cG]
theorem kc(T:Ty):∀j:Int,1+(T.name.size:Int)/16<=cz T j:=by
 induction T using Ty.ind with
 |h T I=>
  intro j;rw[kb];have key:∀ts:List Ty,(∀t∈ts,∀j:Int,1+(t.name.size:Int)/16<=cz t j)->∀n:Int,n<=cG ts j n:=by
   intro ts
   induction ts with
   |nil=>intro _ n;rw[cG];omega
   |cons a ts D=>
    intro h n;rw[nK];split
    ·have h1:=h a (by simp) (j - n)
     have h2:=D (λt G=>h t (by simp[G])) (n+cz a (j - n));omega
    omega
  exact key T.args (λt G=>by obtain⟨i,hi,rfl⟩:=J4 G;exact I i hi) _
theorem Ew(T:Ty):∀j:Int,cz T j<=j->((gM T).length:Int)<=23*cz T j:=by
 induction T using Ty.ind with
 |h T J=>
  intro j h;have key:∀ts:List Ty,(∀t∈ts,∀j:Int,cz t j<=j->((gM t).length:Int)<=23*cz t j)->∀n:Int,cG ts j n<=j->n<=cG ts j n/\((jj ts).length:Int)<=23*(cG ts j n - n):=by
   intro ts
   induction ts with
   |nil=>intro _ n hn;rw[cG]at hn⊢;simp[jj]
   |cons a ts G=>
    intro hx n hn;rw[nK]at hn⊢;by_cases D:n<=j
    ·rw[G_ D]at hn⊢
     obtain⟨h1,h2⟩:=G (λt I=>hx t (by simp[I])) _ hn;have U:=kc a (j - n);have V:=hx a (by simp) (j - n) O_;have e:jj (a::ts)=gM a++jj ts:=by have:=sd (ts:=a::ts) (k:=0) (by simp);simpa using this
     rw[e,p_];have X:(0:Int)<=(a.name.size:Int)/16:=by omega
     refine⟨by omega,?_⟩;have M:(((gM a).length+(jj ts).length:Nat):Int)=((gM a).length:Int)+((jj ts).length:Int):=by omega
     rw[M];omega
    rw[I_ D]at hn;omega
  have O:=key T.args (λt I=>by obtain⟨i,hi,rfl⟩:=J4 I;exact J i hi) (1+(T.name.size:Int)/16) (by rw[kb]at h;exact h);rw[<-kb]at O;have hp:=kc T j;rw[gT];by_cases h1:T.kind=1
  ·rw[G_ h1]
   simp only[p_,Kt,bz];omega
  rw[I_ h1];have hn:=eX T.name;by_cases h2:T.kind=2
  ·rw[G_ h2]
   simp only[p_,Kt,hn];omega
  rw[I_ h2];simp only[p_,Kt,JP];omega
theorem Gh{x:Ex}(h1:x.name.size<=255)(h2:cJ x.ty=v_)(j:bG x.ty=v_):((Bo x).length:Int)<=90*GU x:=by
 have hn:=eX x.name;have hp:=kc x.ty 1000;have hw:((gM x.ty).length:Int)<=90*cz x.ty 1000:=by
  by_cases h:cz x.ty 1000<=1000
  ·have:=Ew x.ty 1000 h;omega
  have t:=lK x.ty j;have D:=(cU.1 h2).1;omega
 unfold Bo GU;simp only[p_,Kt,hn];omega
theorem FC(x:Ex):2<=GU x:=by
 have hp:=kc x.ty 1000;unfold GU;omega
theorem qf:∀xs:List Ex,2*(xs.length:Int)<=jk xs
 |[]=>by simp[jk]
 |x::xs=>by
  have:=FC x;have:=qf xs;rw[jk,Jz];omega
theorem zY:∀{xs:List Ex},(∀x∈xs,x.name.size<=255/\cJ x.ty=v_/\bG x.ty=v_)->((fP xs).length:Int)<=90*jk xs
 |[],_=>by simp[fP,jk]
 |x::xs,h=>by
  obtain⟨a,b,c⟩:=h x (by simp);have h1:=Gh a b c;have h2:=zY (xs:=xs) λy j=>h y (by simp[j])
  have e:fP (x::xs)=Bo x++fP xs:=by have:=lu (xs:=x::xs) (k:=0) (by simp);simpa using this
  rw[e,p_,jk];omega
theorem Fh{e:En}(h:gF e=v_):((aN e).length:Int)<=90*EC e:=by
 have h1:=zY (fp (ia h));have h2:=qf e.aI;have hu:=eX e.uri;unfold aN et EC;simp only[p_,Jz,JP,hu,bz];omega
theorem u9(e:En):1<=EC e:=by
 have:=qf e.aI;unfold EC;omega
theorem la:∀es:List En,0<=dL es
 |[]=>by simp[dL]
 |e::es=>by have:=la es;have:=u9 e;rw[dL];omega
theorem xT{e:En}:∀{es:List En},e∈es->EC e<=dL es
 |x::es,h=>by
  have h1:=la es;have h2:=u9 x;rw[dL];rcases JL.1 h with rfl|h
  ·omega
  have:=xT h;omega
theorem va(es:List En)(k:Nat):dL (es.take k)<=dL es:=by
 have key:∀a b:List En,dL (a++b)=dL a+dL b:=by
  intro a b
  induction a with
  |nil=>simp[dL]
  |cons x a j=>simp only[Ka,dL,j];omega
 have h:=key (es.take k) (es.drop k);rw[KJ]at h;have:=la (es.drop k);omega
theorem Bz{es:List En}(h:dL es<=3000){e:En}(he:e∈es):e.aI.length<=3000:=by
 have h1:=xT he;have h2:=qf e.aI;unfold EC at h1;omega
def Cs(ls:List (List UInt8)):Nat:=(ls.map List.length).sum
theorem Ct(l:List UInt8)(ls:List (List UInt8)):Cs (l::ls)=l.length+Cs ls:=by simp[Cs]
theorem vM(g:Nat):∀ls:List (List UInt8),(bE g ls).length=12*ls.length+Cs ls
 |[]=>rfl
 |l::ls=>by
  rw[dr,p_,bc,vM g ls,Ct,Jz];omega
end Go.Ix
namespace Go.Proofs.YtaalbcfpacpgfaaGreat
open Go.RowKit Go.Lib Go.Vfs Go.Par Go.Typ Go.Shelf Go.Ix
def pQ(e:En):Bool:=gF e&&decide ((aN e).length<=65536)
def pT(e:En):Nat:=if pQ e then(aN e).length else 0
theorem Ag(e:En):(pT e:Int)<=90*EC e:=by
 have hp:=u9 e;unfold pT pQ;by_cases h:gF e=v_
 ·have:=Fh h
  split<;>omega
 rw[show gF e=false by simpa using h];simp;omega
theorem qv{e:En}(h:pQ e=v_):gF e=v_/\(aN e).length<=65536:=by
 unfold pQ at h;simp only[Ku,LQ]at h;exact h
theorem yy(w:j_)(px p gen:Nat)(st:St)(base log:List (List UInt8))(es:List En)(F H S:Nat->Prop)(h:XF w px p st gen base log es F H S)(j:st.files.length<=100000)(t:∀f∈st.files,f.name.length<=100000)(D:st.aa<=9223372036854775807):
  Calls h_ 24 #[i_ (c_ ⟨px,0,b_⟩)] w λe w'=>e=k_ (e_ d_ (dx st).2)/\cW w px p F H S (dx st).1 gen base log es w':=by
 have O:=Z_ h;obtain⟨J,X,xs,G,hj,hi,he,M,hS,hn⟩:=h;subst he;have Y:w.cell? ⟨px,0,b_⟩=c_ (i_ (c_ ⟨J,0,b_⟩)):=by simp[E_,hi.head]
 have U:=Z_ (Bw hj j t D);have V:x_ (∀w3,dO w J p F G (dx st).1 gen base log w3->cW w px p F H S (dx st).1 gen base log (xs.map (·.e)) w3):=Z_ λw3 hp=>
  (cW.iN B_ hi M hS hn hi.lt hp).1
 clear hj hi M hS hn j t;go_enter Tryz.func24,Tryz.ntmps24;go_wp2_with fail;refine U.o.mono ?_;rintro e w2 ⟨rfl,hp⟩;have I:=Z_ (V.o _ hp);clear hp;go_wp2;go_ret;exact⟨rfl,I.o⟩
def CM(P:List UInt8->Prop)(K:Nat)(bs:Option af):Prop:=∀f,bs=c_ f->f.safe=f.data.length/\∀x,bP f.data=c_ x->x.1<=K/\x.2.length<=50000/\∀l∈x.2,P l
def EF(P:List UInt8->Prop)(K:Nat)(lg:Option af):Prop:=∀f,lg=c_ f->∃(g:Nat) (rest:List (List UInt8)) (n:Nat),g<4294967296/\n<=(bE g rest).length/\f.data=(bE g rest).take n/\rest.length<=K/\∀l∈rest,P l
structure FW(P:List UInt8->Prop)(K n d:Nat)(st:St):Prop where
 bs:CM P K (aj af.name dj st.files)
 lg:EF P K (aj af.name aK st.files)
 calm:Calm st.files n d
structure LI(P:List UInt8->Prop)(K n d:Nat)(st:St)(g:Nat)(base rest:List (List UInt8))(es:List En):Prop where
 pw:st.aa<=9223372036854775807
 v3:∃bs lg s,V3 st.files b_ bs lg/\CM P K bs/\tR g rest s lg
 calm:Calm st.files n d
 gk:g<=K
 rl:rest.length<=K
 yP:∀l∈base++rest,P l
 rep:replay [] (base++rest)=c_ es
section
variable{P:List UInt8->Prop}{K n d K' n' d':Nat}{st:St}{g:Nat}{base rest:List (List UInt8)}{es:List En}
variable{g:Nat}{ps ls:List (List UInt8)}
theorem CM.mono{bs:Option af}(h:CM P K bs)(t:K<=K'):CM P K' bs:=λf j=>⟨(h f j).1,λx hx=>⟨Kj ((h f j).2 x hx).1 t,((h f j).2 x hx).2⟩⟩
theorem EF.mono{lg:Option af}(h:EF P K lg)(G:K<=K'):EF P K' lg:=λf j=>by
 obtain⟨g,r,n,h1,h2,t,I,D⟩:=h f j;exact⟨g,r,n,h1,h2,t,by omega,D⟩
theorem tR.t{s:Nat}{lg:Option af}(h:tR g rest s lg)(D:g<4294967296)(G:rest.length<=K)(I:∀l∈rest,P l):EF P K lg:=λf j=>by
 rcases h with⟨h1,-⟩|h1
 ·rw[h1]at j;cases j
 rw[h1]at j;cases j;exact⟨g,rest,_,D,Kh _,(JO).symm,G,I⟩
theorem LI.mono(h:LI P K n d st g base rest es)(h1:K<=K')(h2:n<=n')(j:d<=d'):LI P K' n' d' st g base rest es:=by
 obtain⟨bs,lg,s,t,D,a3⟩:=h.v3;exact⟨h.pw,⟨bs,lg,s,t,D.mono h1,a3⟩,h.calm.mono h2 j,Kj h.gk h1,Kj h.rl h1,h.yP,h.rep⟩
theorem LI.fw(h:LI P K n d st g base rest es)(I:K<=1000):FW P K n d st:=by
 obtain⟨bs,lg,s,j,D,a3⟩:=h.v3;exact⟨by rw[j.bs];exact D,by rw[j.lg];exact a3.t (by have:=h.gk;omega) h.rl (λl G=>h.yP l (Le _ G)),h.calm⟩
theorem FW.mono(h:FW P K n d st)(h1:K<=K')(h2:n<=n')(j:d<=d'):FW P K' n' d' st:=⟨h.bs.mono h1,h.lg.mono h1,h.calm.mono h2 j⟩
theorem FW.qJ(h:FW P K n d st)(D:List Int)(pw:Int):FW P K n d (ic st D pw):=by
 obtain⟨i,j,k,hc⟩:=(show V3 st.files (aj af.name a6 st.files) (aj af.name dj st.files) (aj af.name aK st.files)from⟨rfl,rfl,rfl⟩).qJ D;refine⟨?_,?_,h.calm.qJ D 0⟩
 ·show CM P K (aj af.name dj (cN D 0 st.files))
  rw[hc.bs];cases G:aj af.name dj st.files with
  |none=>intro f I;cases I
  |some f=>
   intro J t;injection t with t;obtain⟨h1,h2⟩:=h.bs f G;obtain⟨a,b,c⟩:=f;simp only at h1 h2;subst h1;rw[ue]at t;subst t;exact⟨rfl,h2⟩
 show EF P K (aj af.name aK (cN D 0 st.files));rw[hc.lg];cases G:aj af.name aK st.files with
 |none=>intro f I;cases I
 |some f=>
  intro J t;injection t with t;obtain⟨g,r,n,h1,h2,M,O,U⟩:=h.lg f G;refine⟨g,r,min (mi (kl D k) f) n,h1,by omega,?_,O,U⟩;subst t;show f.data.take _=_;rw[M,List.take_take]
theorem Hu{D:St}{fs:List af}{bs lg:Option af}{pw:Int}(h:V3 fs b_ bs lg)(hB:CM P K bs)(hL:EF P K lg)(hP:∀l,P l->l.length<=65536)(O:aW ⟨pw,fs⟩=(D,.ok (g,ps,ls))):
  (∃bs lg s,V3 D.files b_ bs lg/\CM P K bs/\tR g ls s lg)/\g<=K/\ls.length<=K/\ps.length<=50000/\∀l∈ps++ls,P l:=by
 have e1:bC ⟨pw,fs⟩=(⟨pw,fs⟩,0):=h.II;cases t:tY bs with
 |none=>
  have:cw ⟨pw,fs⟩=none:=by unfold cw;simp only[h.bs];exact t
  unfold aW at O;rw[e1]at O;simp[this]at O
 |some x=>
  obtain⟨j,X⟩:=x;have Y:j<=K/\X.length<=50000/\∀l∈X,P l:=by
   cases bs with
   |none=>cases t;exact⟨Km _,Km _,λl U=>(by cases U)⟩
   |some f=>exact(hB f rfl).2 _ t
  have key:∃s,(iy lg j=false->tR j (dI lg j) s lg)/\(iy lg j=v_->∃s,tR j (dI lg j) s (rq lg j))/\(dI lg j).length<=K/\∀l∈dI lg j,P l:=by
   cases lg with
   |none=>exact⟨0,λ_=>.inl ⟨rfl,rfl⟩,λh=>(by cases h),Km _,λl U=>(by cases U)⟩
   |some f=>
    obtain⟨G,r,n,h1,h2,h3,h4,h5⟩:=hL f rfl;have V:f.name=aK:=(aV h.lg).2;obtain⟨m,m1,m2,m3,-⟩:=Bs h1 (λp hp=>hP p (h5 p hp)) h2 h3;have hlen:f.data.length=n:=by rw[h3,JN];omega
    by_cases hg:G=j
    ·subst hg
     have hs:aU G (dM f.data)=dM f.data:=pF (re m2);have hr:dI (c_ f) G=r.take m:=by unfold dI;simp only;rw[hs,wN m2]
     have he:bD (aU G (dM f.data))=(bE G (r.take m)).length:=by rw[hs,tc m2]
     have hd:f.data.take (bE G (r.take m)).length=bE G (r.take m):=by
      have:bE G r=bE G (r.take m)++bE G (r.drop m):=by rw[<-kF,KJ]
      rw[h3,List.take_take,K2 m3,this,List.take_left'];rfl
     rw[hr];refine⟨f.safe,λt=>.inr ?_,λt=>⟨min f.safe (bE G (r.take m)).length,.inr ?_⟩,(by rw[JN];omega),λl U=>h5 l (List.mem_of_mem_take U)⟩
     ·have I:¬(bE G (r.take m)).length<f.data.length:=by rw[<-he];exact Ls t
      rw[Kq O_]at hd;obtain⟨a,b,c⟩:=f;simp only at V hd⊢;rw[V,hd]
     have I:bD (aU G (dM f.data))<f.data.length:=Kv t;unfold rq;simp only;rw[G_ I,he,hd]
    have hs:aU j (dM f.data)=[]:=sH m2 hg;have hr:dI (c_ f) j=[]:=by unfold dI;simp only;rw[hs];rfl
    have he:bD (aU j (dM f.data))=0:=by rw[hs];rfl
    rw[hr];refine⟨f.safe,λt=>.inr ?_,λt=>⟨0,.inr ?_⟩,Km _,λl U=>(by cases U)⟩
    ·have I:¬bD (aU j (dM f.data))<f.data.length:=Ls t
     have:f.data=[]:=JH O_;obtain⟨a,b,c⟩:=f;simp only at V this⊢;rw[V,this];rfl
    have I:bD (aU j (dM f.data))<f.data.length:=Kv t;unfold rq;simp only;rw[G_ I,he,List.take_zero,Nat.min_zero];rfl
  obtain⟨s,k1,k2,k3,k4⟩:=key;have fin:∀{D:St} {Z:Option af} {s:Nat} {x:Nat×List (List UInt8)×List (List UInt8)},V3 D.files b_ bs Z->tR j (dI lg j) s Z->(Except.ok (j,X,dI lg j):Except Int _)=.ok x->(∃bs lg s,V3 D.files b_ bs lg/\CM P K bs/\tR x.1 x.2.2 s lg)/\x.1<=K/\x.2.2.length<=K/\x.2.1.length<=50000/\∀l∈x.2.1++x.2.2,P l:=by
   intro D Z s x h1 h2 h3;cases h3;exact⟨⟨_,_,_,h1,hB,h2⟩,Y.1,k3,Y.2.1,λl U=>(KI.1 U).elim (Y.2.2 l) (k4 l)⟩
  cases J:iy lg j with
  |false=>
   rw[h.I2 t J]at O;injection O with ad M;subst ad;exact fin h (k1 J) M
  |true=>
   by_cases hp:pw=0
   ·subst hp
    rw[h.I4 t J]at O;injection O with _ M;cases M
   obtain⟨av,e,hv⟩:=h.I3 hp t J;rw[e]at O;injection O with ad M;subst ad;obtain⟨s',ak⟩:=k2 J;exact fin hv ak M
theorem yG{st:St}(h:(bC st).2=0)(h2:aj af.name a6 (bC st).1.files=b_):aW st=aW (bC st).1:=by
 have e:bC (bC st).1=((bC st).1,0):=by
  generalize(bC st).1=s1 at*;unfold bC;rw[I_ (by rw[dt,h2];simp)]
 conv=>rhs;unfold aW
 rw[e];unfold aW;rw[G_ h,G_ rfl]
theorem FW.opened{D:St}(h:FW P K n d st)(G:st.aa<=9223372036854775807)(X:∀l,P l->l.length<=65536)(j:aW st=(D,.ok (g,ps,ls))):ps.length<=50000/\ls.length<=K/\(∀l∈ps++ls,P l)/\∀{es:List En},replay [] (ps++ls)=c_ es->LI P K (n+1) d D g ps ls es:=by
 have h1:(bC st).2=0:=by
  apply Classical.byContradiction;intro I;unfold aW at j;rw[I_ I]at j;injection j with _ j;cases j
 have h2:aj af.name a6 (bC st).1.files=none:=by
  unfold bC at h1⊢;split
  ·rename_i J
   rw[G_ J]at h1;unfold cD at h1⊢;split
   ·rename_i e t
    rw[t]at h1;exact absurd h1 (vU t)
   rename_i f t
   rw[t]at h1;simp only at h1⊢;unfold cT at h1⊢;split
   ·rename_i Y;rw[G_ Y]at h1;exact absurd (show(13:Int)=0 from h1) (by decide)
   exact jz _ _
  rename_i J
  have:=dt st.files a6;cases t:aj af.name a6 st.files with
  |none=>rfl
  |some f=>rw[t]at this;exact absurd this J
 have hc:=BL h.calm;have O:=yI G;rw[j]at hc O;rw[yG h1 h2]at j;have Z:=jY st dj (by decide);have hl:=jY st aK (by decide);generalize(bC st).1=s1 at*;obtain⟨ad,M⟩:=s1;have hv:V3 M b_ (aj af.name dj st.files) (aj af.name aK st.files):=⟨h2,Z,hl⟩;obtain⟨k1,k2,U,k5,V⟩:=Hu hv h.bs h.lg X j;exact⟨k5,U,V,λhr=>⟨O,k1,hc,k2,U,V,hr⟩⟩
theorem LI.append(h:LI P K n d st g base rest es){l:List UInt8}(M:P l){t:List En}(hs:cL es l=c_ t):∃R:St×Int,∃j:List (List UInt8),aQ st g rest l=(R.1,R.2,j)/\(R.2=0\/R.2=13)/\LI P (K+1) (n+1) (d+12+l.length) R.1 g base j (if R.2=0 then t else es):=by
 obtain⟨bs,lg,s,J,O,a3⟩:=h.v3;obtain⟨pw,fs⟩:=st;have D:=J.append (pw:=pw) (aw g l);by_cases hp:pw=0
 ·subst hp
  rw[uh]at D;refine⟨(⟨0,fs⟩,13),rest,?_,.inr rfl,?_⟩
  ·unfold aQ;rw[D];rfl
  exact h.mono O_ O_ O_
 rw[zQ hp]at D;refine⟨(⟨dec pw,eJ aK (aw g l) fs⟩,0),rest++[l],?_,.inl rfl,?_⟩
 ·unfold aQ;rw[D];rfl
 have U:=J.IM (aw g l);have G:∃s,tR g (rest++[l]) s (c_ (tT aK lg (aw g l))):=by
  rcases a3 with⟨h1,h2⟩|h1
  ·subst h1 h2;exact⟨0,.inr (by simp[tT,bE])⟩
  subst h1;exact⟨s,.inr (by simp[tT,lr])⟩
 obtain⟨V,I⟩:=G;refine⟨by have h1:=h.pw;have h2:=mj pw;simp only at h1⊢;omega,⟨bs,_,V,U,O.mono O_,I⟩,(h.calm.app (by decide)).mono O_ (by rw[bc];omega),by have:=h.gk;omega,by have:=h.rl;simp;omega,λx hx=>?_,?_⟩
 ·rw[<-JU]at hx
  rcases KI.1 hx with hx|hx
  ·exact h.yP x hx
  rw[KV.1 hx];exact M
 rw[<-JU,pB h.rep];exact hs
theorem LI.sync(h:LI P K n d st g base rest es):((dx st).2=0\/(dx st).2=13)/\LI P K (n+1) d (dx st).1 g base rest es:=by
 obtain⟨bs,lg,s,t,D,a3⟩:=h.v3;obtain⟨pw,fs⟩:=st;rcases a3 with⟨h1,h2⟩|h1
 ·subst h1
  rw[show dx ⟨pw,fs⟩=(⟨pw,fs⟩,0)from t.Ir];exact⟨.inl rfl,h.mono L_ O_ L_⟩
 obtain⟨G,I,J⟩:=t.sync (pw:=pw) h1;have j:Calm (dx ⟨pw,fs⟩).1.files (n+1) d:=by
  unfold dx;split
  ·show Calm (dG ⟨pw,fs⟩ aK).1.files (n+1) d
   unfold dG;split
   ·exact h.calm.mono O_ L_
   rename_i f M
   obtain⟨f1,f2,f3⟩:=lx M;exact(h.calm.mono O_ L_).do (h.calm.aq (h.calm.names f f1) (h.calm.data f f1) L_)
  exact h.calm.mono O_ L_
 rw[I]at j⊢;by_cases hp:pw=0
 ·subst hp
  rw[uh]at j⊢;exact⟨.inr rfl,h.mono L_ O_ L_⟩
 rw[zQ hp]at j⊢;exact⟨.inl rfl,by have h1:=h.pw;have h2:=mj pw;simp only at h1⊢;omega,⟨bs,_,_,J,D,.inr (by subst h1;rfl)⟩,j,h.gk,h.rl,h.yP,h.rep⟩
end
