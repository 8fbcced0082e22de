import Derived.Test.YtaalbcfpacpgfaaGreatZdJB
set_option linter.all false
set_option maxHeartbeats 16000000
set_option maxRecDepth 100000
open Bool renaming false->o_,true->v_
open Go.Ending renaming returned->k_
open Go.IntKind renaming i64->d_,u32->KW
open Go.Lib renaming byteCells->l_
open Go.Obj renaming cells->f_
open Go.Proofs.Tryz renaming prog->h_
open Go.RowKit renaming Below->n_,Hid->x_
open Go renaming Value->m_,World->j_,undef->q_,wpAnyH->Md
open Go.Value renaming bool->u_,int->e_,pointer->i_,slice->a_
open Go.World renaming setCell->Kd
open Option renaming none->b_,some->c_
open Or renaming inl->Ke
namespace Go.Proofs.YtaalbcfpacpgfaaGreat
open Go.RowKit Go.Lib Go.Vfs Go.Par Go.Shelf
section
variable{P:Program}{md:Region.Mode}{ops:Array Oper}{Q:Exit->Act->j_->Prop}
theorem Jj{S:j_->Prop}{i s:Nat}{t:Oper}{v:m_}{fuel:Nat}{j:Array Bool}{a:Act}{w:j_}(hi:ops[i]?=c_ t:=by rfl)(D:t.dst=c_ s:=by rfl)
  (hs:Region.noSelect ops=true:=by kernel_rfl) (I:Region.free md ops j i=true:=by kernel_rfl) (hr:(Region.ready md ops j).contains i=true:=by kernel_rfl)
  (J:∀c a w,Q (.panic c) (a.put t.dst v) w->Q (.panic c) a w:=by exact λ_ _ _ h=>h) (K:YieldsIf P ops S t v a) (hS:S w)
  (h:Md P md ops Q S fuel (j.setIfInBounds i v_) {tmps:=a.tmps.setIfInBounds s v,defers:=a.defers} w):Md P md ops Q S (fuel+1) j a w:=
 Jy hi hs I hr J K hS (by rw[D];exact h)
end
attribute [local go_sem] Oper.semAt_some
section
variable{b:List UInt8}
def gW(l:List (cH b)):Nat:=match l with|[]=>0|x::_=>x.1.gen
def IC(l:List (cH b)):Prop:=match l with|[]=>True|x::xs=>x.1.aJ.length=4/\∀y∈xs,y.1.gen=x.1.gen
def nY(A:Option Addr)(c:Nat)(l:List (cH b)):m_:=match l with|[]=>a_ b_ 0 0|x::_=>sliced A (x.1.start+12) x.1.stop c 1
theorem yu{l:List (cH b)}(h:l≠[])(x:cH b):gW (l++[x])=gW l:=by cases l<;>simp_all [gW]
theorem Bg{A:Option Addr}{c:Nat}{l:List (cH b)}(h:l≠[]){x:cH b}:nY A c (l++[x])=nY A c l:=by cases l<;>simp_all [nY]
theorem Bl{l:List (cH b)}(h:l≠[])(x:cH b):(l++[x]).drop 1=l.drop 1++[x]:=by cases l<;>simp_all
theorem IC.snoc{l:List (cH b)}(t:IC l)(h:l≠[]){x:cH b}(hx:x.1.gen=gW l):IC (l++[x]):=by
 cases l with
 |nil=>exact absurd rfl h
 |cons y l=>
  refine⟨t.1,λz j=>?_⟩;rcases KI.1 j with j|j
  ·exact t.2 z j
  simp at j;subst j;exact hx
def bP(b:List UInt8):Option (Nat×List (List UInt8)):=match dM b with
 |[]=>b_
 |x::xs=>if x.1.aJ.length=4/\(∀y∈xs,y.1.gen=x.1.gen)/\bD (x::xs)=b.length/\xs.length=cj x.1.aJ then c_ (x.1.gen,dR xs)else b_
theorem nZ{l:List (cH b)}(h:l≠[]):12<=bD l:=by
 have:l=l.dropLast++[l.getLast h]:=(List.dropLast_concat_getLast h).symm;rw[this,ir];have:=(dB (l.getLast h).2).2.1;omega
theorem vN{l:List (cH b)}:bD l<=b.length:=by
 by_cases h:l=[]
 ·subst h;simp[bD]
 have:l=l.dropLast++[l.getLast h]:=(List.dropLast_concat_getLast h).symm;rw[this,ir];exact(dB (l.getLast h).2).2.2.1
end
theorem fh{P:Program}{ops:Array Oper}{Q:Exit->Act->j_->Prop}{S:j_->Prop}{id:Nat}{a:Act}{w:j_}(hm:P.follows .mixedOrders=v_)
  (h:Md P .any ops (Exit.then (λa w=>Q .normal a w) (λ_ _ _=>False)) S ops.size (Array.replicate ops.size o_) a w.drew):(Code.region id ops v_).wp P Q a w:=
 wp_mono (KE hm h) (by
  intro e a w h;cases e<;>first|exact h|exact h.elim)
def BK(w:j_)(G:Nat->Prop)(k:Nat):Prop:=k=w.heap.size+4\/(k<w.heap.size/\¬G k)
structure zv(w:j_)(pj p:Nat)(lv:m_)(us:List m_)(log:List (List UInt8))(G:Nat->Prop)(A:Option Addr)(c:Nat)(b:List UInt8)(pre:List (cH b))(W:j_):Prop where
 c0:W.heap[w.heap.size]?=c_ (f_ #[i_ (c_ ⟨pj,0,b_⟩)] 27 (0,0))
 c1:W.heap[w.heap.size+1]?=c_ (f_ #[u_ o_] 4 (0,0))
 c2:W.heap[w.heap.size+2]?=c_ (f_ #[nY A c pre] 24 (0,0))
 c3:W.heap[w.heap.size+3]?=c_ (f_ #[e_ d_ (bD pre:Nat)] 3 (0,0))
 c4:W.heap[w.heap.size+4]?=c_ (f_ #[a_ A b.length c] 24 (0,0))
 jv:∃bv bs G',JV W pj p (gW pre) bv lv bs us (dR (pre.drop 1)) log G'/\∀k,G' k->G k\/w.heap.size+5<=k
 kept:Kept G w W
 ok:IC pre
 size:w.heap.size+5<=W.heap.size
section
variable{w W W':j_}{pj p:Nat}{lv:m_}{us:List m_}{log:List (List UInt8)}{G:Nat->Prop}{A:Option Addr}{c:Nat}{b:List UInt8}{pre:List (cH b)}
theorem zv.walk(h:zv w pj p lv us log G A c b pre W)(t:∀k,G k->k<w.heap.size){row:Option Nat}(j:W.grownBy W' row)(hr:∀r,row=c_ r->w.heap.size+5<=r/\∃o:Obj,W.heap[r]?=c_ o/\o.isCells=o_):zv w pj p lv us log G A c b pre W':=by
 have D:=h.size;have low:∀k,k<w.heap.size+5->W'.heap[k]?=W.heap[k]?:=λk I=>j.block k O_ (λe=>by have:=(hr k e.symm).1;omega)
 obtain⟨bv,bs,G',h1,h2⟩:=h.jv;exact⟨(low _ O_).trans h.c0,(low _ O_).trans h.c1,(low _ O_).trans h.c2,(low _ O_).trans h.c3,(low _ O_).trans h.c4,⟨bv,bs,G',h1.walk j (λr e=>(hr r e).2),h2⟩,h.kept.grown j (λk e=>.inr (by have:=(hr k e).1;omega)),h.ok,by have:=j.size;omega⟩
theorem zv.go(h:zv w pj p lv us log G A c b pre W)(j:n_ W W W'):zv w pj p lv us log G A c b pre W':=by
 have t:=h.size;obtain⟨bv,bs,G',h1,h2⟩:=h.jv;exact⟨(j.block _ O_).trans h.c0,(j.block _ O_).trans h.c1,(j.block _ O_).trans h.c2,(j.block _ O_).trans h.c3,(j.block _ O_).trans h.c4,⟨bv,bs,G',h1.go j,h2⟩,h.kept.trans' (Kept.ar j),h.ok,by have:=j.size;omega⟩
end
variable{w W:j_}{pj p c:Nat}{lv:m_}{us:List m_}{log:List (List UInt8)}{G:Nat->Prop}{A:Option Addr}{b:List UInt8}
theorem zv.next{X w2 M:j_}{K t u2:m_}{O:List m_}{G1:Nat->Prop}{pre:List (cH b)}(h:zv w pj p lv us log G A c b pre W)
  (Y:∀k,G k->k<w.heap.size) (I:JV W pj p (gW pre) K lv O us (dR (pre.drop 1)) log G1) (Z:pre≠[]) (J:∀k,G1 k->G k\/w.heap.size+5<=k) (hb:n_ W W X) (a1:n_ X X w2) (x:cH b) (hx:x.1.gen=gW pre)
  (hu:Par.Own w2 X 5 u2 (l_ x.1.aJ)) (o:Obj) (ad:M.ownsRow 0 24 1 t (O.length+1) (O++[u2])) (hg:(w2.alloc o).grownBy M K.ownBlock) (ak:t.ownBlock=K.ownBlock\/t.ownBlock=c_ (w2.heap.size+1)):
  KeepsFrom (w+5) W ((M.setCell ⟨pj,2,b_⟩ t).setCell ⟨w+3,0,b_⟩ (e_ d_ (x.1.stop:Nat)))/\vl (BK w G) W ((M.setCell ⟨pj,2,b_⟩ t).setCell ⟨w+3,0,b_⟩ (e_ d_ (x.1.stop:Nat)))/\
   zv w pj p lv us log G A c b (pre++[x]) ((M.setCell ⟨pj,2,b_⟩ t).setCell ⟨w+3,0,b_⟩ (e_ d_ (x.1.stop:Nat))):=by
 have hz:=h.size;have bb:=hb.size;have bt:=a1.size;have bd:=hg.size;simp only[JQ]at bd;have av:G1 pj:=I.jJ;have b4:n_ W W (w2.alloc o):=(hb.trans (a1.mono bb)).alloc O_ o;have a2:=I.go b4;have bf:O.length=(dR (pre.drop 1)).length:=by have:=I.mf.1;simpa using this
 rw[bf]at ad;have bg:Par.Own (w2.alloc o) X 5 u2 (l_ x.1.aJ):=hu.alloc o;have ba:=a2.Hw bg (λg e D=>by have:=(hu.lt g e).1;have:=I.lt g D;omega) ad hg (by simpa using ak);obtain⟨oj,bj,bk⟩:=I.EA pj av;have bm:=I.lt pj av;have U:∀k,K.ownBlock=c_ k->G1 k/\k≠pj:=λk e=>⟨(I.gb k e).1,(I.gb k e).2⟩
 have V:G pj\/w.heap.size+5<=pj:=J pj av;have n1:pj≠w.heap.size+3:=by rcases V with h1|h1;(have:=Y pj h1;omega);omega
 have same:∀k,k<W.heap.size->k≠pj->k≠w.heap.size+3->K.ownBlock≠c_ k->((M.setCell ⟨pj,2,b_⟩ t).setCell ⟨w+3,0,b_⟩ (e_ d_ (x.1.stop:Nat))).heap[k]?=W.heap[k]?:=λk j h1 h2 h3=>by
  rw[ab h2,ab h1,hg.block k (by simp;omega) (λe=>h3 e.symm)];exact b4.block k j
 have bx:((M.setCell ⟨pj,2,b_⟩ t).setCell ⟨w+3,0,b_⟩ (e_ d_ (x.1.stop:Nat))).heap.size=M.heap.size:=by simp[Kd]
 have low:∀k,k<w.heap.size+5->¬G k->k≠w.heap.size+3->((M.setCell ⟨pj,2,b_⟩ t).setCell ⟨w+3,0,b_⟩ (e_ d_ (x.1.stop:Nat))).heap[k]?=W.heap[k]?:=λk j hn h1=>by
  refine same k O_ (λe=>?_) h1 (λe=>?_)
  ·subst e;rcases V with h2|h2;exact hn h2;omega
  rcases J k (U k e).1 with h2|h2;exact hn h2;omega
 refine⟨⟨by omega,λk ob hB j hc=>?_⟩,⟨by omega,λk j=>?_⟩,⟨?_,?_,?_,?_,?_,⟨t,O++[u2],λb=>(G1 b/\K.ownBlock≠c_ b)\/u2.ownBlock=c_ b\/t.ownBlock=c_ b,?_,λk j=>?_⟩,?_,h.ok.snoc Z hx,by omega⟩⟩
 ·refine(same k (F_ j) (λe=>?_) O_ (λe=>?_)).trans j
  ·subst e;rw[bj]at j;cases j;rw[bk]at hc;cases hc
  obtain⟨o2,bn,bo⟩:=jZ I.mf k e;rw[bn]at j;cases j;rw[bo]at hc;cases hc
 ·rcases j with rfl|⟨j,hn⟩
  ·exact low _ O_ (λD=>by have:=Y _ D;omega) O_
  exact low k O_ hn O_
 ·exact(low _ O_ (λD=>by have:=Y _ D;omega) O_).trans h.c0
 ·exact(low _ O_ (λD=>by have:=Y _ D;omega) O_).trans h.c1
 ·rw[Bg Z];exact(low _ O_ (λD=>by have:=Y _ D;omega) O_).trans h.c2
 ·rw[ir]
  have e1:(M.setCell ⟨pj,2,b_⟩ t).heap[w.heap.size+3]?=c_ (f_ #[e_ d_ (bD pre:Nat)] 3 (0,0)):=by
   rw[ab (Ne.symm n1),hg.block _ (by simp;omega) (λe=>?_),b4.block _ O_]
   ·exact h.c3
   rcases J _ (U _ e.symm).1 with h2|h2
   ·have:=Y _ h2;omega
   omega
  exact dk e1
 ·exact(low _ O_ (λD=>by have:=Y _ D;omega) O_).trans h.c4
 ·rw[yu Z,Bl Z,tt]
  refine ba.block λk j=>ab (λ(e:k=w.heap.size+3)=>?_)
  subst e;rcases j with⟨j,-⟩|j|j
  ·rcases J _ j with h2|h2
   ·have:=Y _ h2;omega
   omega
  ·have:=(hu.lt _ j).1;omega
  rcases ak with e1|e1
  ·rcases J _ (U _ (e1▸j)).1 with h2|h2
   ·have:=Y _ h2;omega
   omega
  rw[e1]at j;injection j with j;omega
 ·rcases j with⟨j,-⟩|j|j
  ·exact J k j
  ·right;have:=(hu.lt k j).1;omega
  rcases ak with e1|e1
  ·exact J k (U k (e1▸j)).1
  rw[e1]at j;cases j;right;omega
 have bp:Kept G w M:=(h.kept.trans' (Kept.ar b4)).grown hg (λk e=>by rcases J k (U k e).1 with h2|h2;exact .inl h2;right;omega);exact(bp.setCell (p:=⟨pj,2,b_⟩) (by rcases V with h2|h2;exact .inl h2;right;simp;omega) _).setCell (p:=⟨w+3,0,b_⟩) (.inr (by simp)) _
theorem zv.first(h:zv w pj p lv us log G A c b [] W)(D:∀k,G k->k<w.heap.size)(x:cH b)(hx:x.1.aJ.length=4)(hg:x.1.gen<4294967296):
  KeepsFrom (w+5) W (((W.setCell ⟨w+2,0,b_⟩ (nY A c [x])).setCell ⟨pj,1,b_⟩ (e_ KW (x.1.gen:Nat))).setCell ⟨w+3,0,b_⟩ (e_ d_ (x.1.stop:Nat)))/\vl (BK w G) W (((W.setCell ⟨w+2,0,b_⟩ (nY A c [x])).setCell ⟨pj,1,b_⟩ (e_ KW (x.1.gen:Nat))).setCell ⟨w+3,0,b_⟩ (e_ d_ (x.1.stop:Nat)))/\
   zv w pj p lv us log G A c b [x] (((W.setCell ⟨w+2,0,b_⟩ (nY A c [x])).setCell ⟨pj,1,b_⟩ (e_ KW (x.1.gen:Nat))).setCell ⟨w+3,0,b_⟩ (e_ d_ (x.1.stop:Nat))):=by
 have hz:=h.size;obtain⟨bv,bs,O,I,J⟩:=h.jv;have K:=I.jJ;have j:G pj\/w.heap.size+5<=pj:=J pj K;have n2:pj≠w.heap.size+2:=by rcases j with h1|h1;(have:=D pj h1;omega);omega
 have n3:pj≠w.heap.size+3:=by rcases j with h1|h1;(have:=D pj h1;omega);omega
 have M:∀k,O k->k≠w.heap.size+2/\k≠w.heap.size+3:=λk t=>by
  rcases J k t with h1|h1
  ·have:=D k h1;omega
  omega
 obtain⟨oj,U,V⟩:=I.EA pj K;have ad:(((W.setCell ⟨w+2,0,b_⟩ (nY A c [x])).setCell ⟨pj,1,b_⟩ (e_ KW (x.1.gen:Nat))).setCell ⟨w+3,0,b_⟩ (e_ d_ (x.1.stop:Nat))).heap.size=W.heap.size:=by simp[Kd]
 have same:∀k,k≠pj->k≠w.heap.size+2->k≠w.heap.size+3->(((W.setCell ⟨w+2,0,b_⟩ (nY A c [x])).setCell ⟨pj,1,b_⟩ (e_ KW (x.1.gen:Nat))).setCell ⟨w+3,0,b_⟩ (e_ d_ (x.1.stop:Nat))).heap[k]?=W.heap[k]?:=λk h1 h2 h3=>by
  rw[ab h3,ab h1,ab h2]
 have X:JV (W.setCell ⟨w+2,0,b_⟩ (nY A c [x])) pj p (gW (b:=b) []) bv lv bs us (dR (([]:List (cH b)).drop 1)) log O:=I.block λk t=>ab (M k t).1
 have Y:=X.GM x.1.gen hg;have Z:=Y.block (w':=((W.setCell ⟨w+2,0,b_⟩ (nY A c [x])).setCell ⟨pj,1,b_⟩ (e_ KW (x.1.gen:Nat))).setCell ⟨w+3,0,b_⟩ (e_ d_ (x.1.stop:Nat))) λk t=>ab (M k t).2
 refine⟨⟨by omega,λk ob hB t hc=>?_⟩,⟨by omega,λk t=>?_⟩,⟨?_,?_,?_,?_,?_,⟨bv,bs,O,Z,J⟩,?_,⟨hx,by simp⟩,by omega⟩⟩
 ·refine(same k (λe=>?_) O_ O_).trans t
  subst e;rw[U]at t;cases t;rw[V]at hc;cases hc
 ·refine same k (λe=>?_) ?_ ?_
  ·subst e
   rcases t with rfl|t
   ·rcases j with h1|h1;(have:=D _ h1;omega);omega
   rcases j with h1|h1;exact t.2 h1;omega
  ·rcases t with rfl|t<;>omega
  rcases t with rfl|t<;>omega
 ·exact(same _ (λe=>by rcases j with h1|h1;(have:=D _ h1;omega);omega) O_ O_).trans h.c0
 ·exact(same _ (λe=>by rcases j with h1|h1;(have:=D _ h1;omega);omega) O_ O_).trans h.c1
 ·rw[ab (by simp),ab (Ne.symm n2)]
  exact dk h.c2
 ·have e:bD [x]=x.1.stop:=by simp[bD]
  rw[e];refine dk (u:=e_ d_ (bD ([]:List (cH b)):Nat)) ?_;rw[ab (Ne.symm n3),ab (by simp)];exact h.c3
 ·exact(same _ (λe=>by rcases j with h1|h1;(have:=D _ h1;omega);omega) O_ O_).trans h.c4
 exact((h.kept.setCell (p:=⟨w+2,0,b_⟩) (.inr (by simp)) _).setCell (p:=⟨pj,1,b_⟩) (by rcases j with h2|h2;exact .inl h2;right;simp;omega) _).setCell (p:=⟨w+3,0,b_⟩) (.inr (by simp)) _
def CL{b:List UInt8}(pre:List (cH b))(x:cH b):Prop:=(pre=[]/\x.1.aJ.length≠4)\/(pre≠[]/\x.1.gen≠gW pre)
theorem ya{pre:List (cH b)}{x:cH b}(h:CL pre x)(hp:pre++[x]<+:dM b):bP b=none:=by
 obtain⟨r,hr⟩:=hp;unfold bP;rw[<-hr];rcases h with⟨rfl,h⟩|⟨h1,h2⟩
 ·simp only[Kl,List.singleton_append]
  rw[I_ (λj=>h j.1)]
 cases pre with
 |nil=>exact absurd rfl h1
 |cons y pre=>
  simp only[Ka];rw[I_ (λj=>h2 (j.2.1 x (by simp)))]
def Ji(w:j_)(G:Nat->Prop){b:List UInt8}(cd:Code)(xs:List (cH b))(W:j_):Prop:=
 cd=.ret/\∃pre x,xs=pre++[x]/\CL pre x/\W.heap[w.heap.size+1]?=c_ (f_ #[u_ o_] 4 (0,0))/\Kept G w W/\w.heap.size+5<=W.heap.size
def Jn(w:j_){b:List UInt8}(A:Option Addr)(c:Nat)(T:cH b->Nat->Array m_)(x:cH b)(a':Act)(W:j_):Prop:=
 ∃bx,w.heap.size+5<=bx/\a'={tmps:=T x bx,defers:=[]}/\W.heap[bx]?=c_ (f_ #[e_ KW (x.1.gen:Nat),sliced A (x.1.start+12) x.1.stop c 1,e_ d_ (x.1.stop:Nat)] 147 (0,0))
theorem uJ(w:j_)(pj p:Nat)(lv:m_)(us:List m_)(log:List (List UInt8))(G:Nat->Prop)(h:JV w pj p 0 (a_ b_ 0 0) lv [] us [] log G)(A:Option Addr)(c:Nat)(b:List UInt8)
  (hb:a8 (λx=>x<w.heap.size/\¬G x) w (a_ A b.length c) (l_ b)) (hl:b.length<=2000000):
  Calls h_ 43 #[i_ (c_ ⟨pj,0,b_⟩),a_ A b.length c] w λe w'=>e=k_ (u_ (bP b).isSome)/\Kept G w w'/\∀g ps,bP b=c_ (g,ps)->∃bv bs G',JV w' pj p g bv lv bs us ps log G'/\aH w G G':=by
 have hG:=h.lt;obtain⟨W0,bk⟩:=N_ (((((w.alloc (f_ #[i_ (c_ ⟨pj,0,b_⟩)] 27)).alloc (f_ #[u_ o_] 4)).alloc (f_ #[a_ b_ 0 0] 24)).alloc (f_ #[e_ d_ 0] 3)).alloc (f_ #[a_ A b.length c] 24));have g8:W0.heap.size=w.heap.size+5:=by rw[bk];simp
 have e2:n_ w w W0:=by rw[bk];exact((((ah w _).alloc (by simp) _).alloc (by simp;omega) _).alloc (by simp;omega) _).alloc (by simp;omega) _
 have k0:W0.heap[w.heap.size]?=c_ (f_ #[i_ (c_ ⟨pj,0,b_⟩)] 27 (0,0)):=by
  rw[bk,z_ _ _ _ (by simp<;>omega),z_ _ _ _ (by simp<;>omega),z_ _ _ _ (by simp<;>omega),z_ _ _ _ (by simp)];exact r_ w _
 have k1:W0.heap[w.heap.size+1]?=c_ (f_ #[u_ o_] 4 (0,0)):=by
  rw[bk,z_ _ _ _ (by simp<;>omega),z_ _ _ _ (by simp<;>omega),z_ _ _ _ (by simp)];have:=r_ (w.alloc (f_ #[i_ (c_ ⟨pj,0,b_⟩)] 27)) (f_ #[u_ o_] 4);simpa using this
 have k2:W0.heap[w.heap.size+2]?=c_ (f_ #[a_ b_ 0 0] 24 (0,0)):=by
  rw[bk,z_ _ _ _ (by simp<;>omega),z_ _ _ _ (by simp)];have:=r_ ((w.alloc (f_ #[i_ (c_ ⟨pj,0,b_⟩)] 27)).alloc (f_ #[u_ o_] 4)) (f_ #[a_ b_ 0 0] 24);simpa using this
 have k3:W0.heap[w.heap.size+3]?=c_ (f_ #[e_ d_ 0] 3 (0,0)):=by
  rw[bk,z_ _ _ _ (by simp)];have:=r_ (((w.alloc (f_ #[i_ (c_ ⟨pj,0,b_⟩)] 27)).alloc (f_ #[u_ o_] 4)).alloc (f_ #[a_ b_ 0 0] 24)) (f_ #[e_ d_ 0] 3);simpa using this
 have k4:W0.heap[w.heap.size+4]?=c_ (f_ #[a_ A b.length c] 24 (0,0)):=by
  rw[bk];have:=r_ ((((w.alloc (f_ #[i_ (c_ ⟨pj,0,b_⟩)] 27)).alloc (f_ #[u_ o_] 4)).alloc (f_ #[a_ b_ 0 0] 24)).alloc (f_ #[e_ d_ 0] 3)) (f_ #[a_ A b.length c] 24);simpa using this
 have cr:a8 (BK w G) W0 (a_ A b.length c) (l_ b):=hb.ae λx hx=>⟨.inr hx,e2.block x hx.1⟩
 have e3:∀k,BK w G k->k<W0.heap.size:=λk hk=>by rcases hk with rfl|hk<;>omega
 have ha:=Z_ (mX W0 A c b (BK w G) cr (w+4) (.inl rfl) e3 k4 hl);have h9:x_ (zv w pj p lv us log G A c b [] W0):=Z_ ⟨k0,k1,k2,k3,k4,⟨a_ b_ 0 0,[],G,h.go e2,λk hk=>.inl hk⟩,Kept.ar e2,trivial,by omega⟩;have hd:=Z_ hb;have hh:=Z_ e3;have HG:=Z_ hG;clear k0 k1 k2 k3 k4 cr e3 h hb hG;refine(Kg (n:=7)).1 ?_;refine callsIn_of_wp_marks Tryz.func43 rfl trivial ?_ rfl;simp only[Tryz.ntmps43,KB,Jz,JP,Nat.reduceAdd,Nat.reduceSub,KF,KG,KP,KK,Kl,Ka];gi_wp2_with (refine⟨trivial,?_⟩;gi_at_call 82;refine(Kg.2 (q8 _ _ _ _)).mono ?_;rintro e w1 ⟨rfl,rfl⟩)
 rw[<-bk];clear bk;refine wpIn_rangeFunc_ownH (F:=Fence.wide) rfl O_ (gf:=123) (lb:=#[i_ (c_ ⟨w+1+1+1+1,0,b_⟩)]) rfl trivial (enters_of Tryz.func123 K_ rfl)
  ha.o (λh k=>h.t k) ?hKb B_ (λ_=>rfl)
  (λpre W=>zv w pj p lv us log G A c b pre W)
  (Ji w G) ?hI ?hIx h9.o
  (Jn w A c (λ(x:cH b) bx=>#[i_ (c_ ⟨pj,0,b_⟩),a_ A b.length c,i_ (c_ ⟨w,0,b_⟩),q_,i_ (c_ ⟨w+1,0,b_⟩),i_ (c_ ⟨w+1+1,0,b_⟩),i_ (c_ ⟨w+1+1+1,0,b_⟩),i_ (c_ ⟨bx,0,b_⟩),a_ A b.length c,.func (.func 123) #[] #[i_ (c_ ⟨w+1+1+1+1,0,b_⟩)],.agg #[e_ KW (x.1.gen:Nat),sliced A (x.1.start+12) x.1.stop c 1,e_ d_ (x.1.stop:Nat)],q_,q_,q_,q_,q_,q_,q_,q_,q_,q_,q_,q_,q_,q_,q_,q_,q_,q_,q_,q_,q_,q_,q_,q_,q_,q_,q_,q_,q_,q_,q_,q_,q_,q_,q_,q_,q_,q_,q_,q_,q_,q_,q_,q_,q_,q_,q_,q_,q_,q_,q_,q_,q_])) ?hAx ?assign ?body ?done ?stop
 case hKb=>
  intro W l o o' hl lf lk l3;exact⟨by simp,λk hk=>World.putObj_heap_other (by have:=hh.o k hk;omega)⟩
 case hI=>
  intro pre X Y row hs hg hr;exact hs.walk HG.o hg (λr e=>⟨by have:=(hr r e).1;omega,(hr r e).2⟩)
 case hIx=>
  rintro cd xs X Y row ⟨h1,pre,x,h2,h3,h4,h5,h6⟩ hg hr;exact⟨h1,pre,x,h2,h3,(hg.block _ O_ (λe=>by have:=(hr _ e.symm).1;omega)).trans h4,h5.grown hg (λk e=>.inr (by have:=(hr k e).1;omega)),by have:=hg.size;omega⟩
 case hAx=>
  rintro x a' _ X Y row ⟨bx,h1,h2,h3⟩ hg hr;refine⟨bx,h1,h2,(hg.block bx (F_ h3) (λe=>?_)).trans h3⟩;obtain⟨o,ho,hc⟩:=(hr bx e.symm).2;rw[h3]at ho;cases ho;cases hc
 case assign=>
  intro l pre x W K U I;obtain⟨A5,c5,e5⟩:=pJ A (x.1.start+12) x.1.stop c;have ev:=I {tmps:=#[i_ (c_ ⟨pj,0,b_⟩),a_ A b.length c,i_ (c_ ⟨w,0,b_⟩),q_,i_ (c_ ⟨w+1,0,b_⟩),i_ (c_ ⟨w+1+1,0,b_⟩),i_ (c_ ⟨w+1+1+1,0,b_⟩),i_ (c_ ⟨W,0,b_⟩),a_ A b.length c,.func (.func 123) #[] #[i_ (c_ ⟨w+1+1+1+1,0,b_⟩)],.agg #[e_ KW (x.1.gen:Nat),a_ A5 (x.1.stop - (x.1.start+12)) c5,e_ d_ (x.1.stop:Nat)],q_,q_,q_,q_,q_,q_,q_,q_,q_,q_,q_,q_,q_,q_,q_,q_,q_,q_,q_,q_,q_,q_,q_,q_,q_,q_,q_,q_,q_,q_,q_,q_,q_,q_,q_,q_,q_,q_,q_,q_,q_,q_,q_,q_,q_,q_,q_,q_,q_,q_,q_,q_,q_],defers:=[]} (W.alloc (f_ #[e_ KW (x.1.gen:Nat),a_ A5 (x.1.stop - (x.1.start+12)) c5,e_ d_ (x.1.stop:Nat)] 147)) ⟨by simp,λk o _ hk _=>(z_ _ _ _ (F_ hk)).trans hk⟩ (vl.below (ah W _) (λk hk=>by have:=hh.o k hk;have:=U.size;omega)) (U.go (ah W _)) ⟨W,U.size,by dsimp only;rw[e5],by rw[e5];exact r_ W _⟩;have HF:=Z_ ev;clear I ev;dsimp only[zS];rw[e5];clear e5;gi_wp2;exact HF.o
 case body=>
  rintro l pre x a' W l4 ih U ⟨bx,l5,rfl,df⟩ hlen;obtain⟨e4,dv,ht,ct,e6,hz⟩:=dB x.2;have l6:=U.size;have cu:bw W W (a_ A b.length c) (l_ b):=(hd.o.ae (S':=λk=>k<w.heap.size) λk hk=>⟨hk.1,U.kept.block k hk.1 hk.2⟩).dH λk hk=>by omega
  obtain⟨-,A5,c5,e5,s5⟩:=lG cu (x.1.start+12) x.1.stop O_ O_;rw[show x.1.stop - (x.1.start+12)=x.1.aJ.length by omega]at e5 s5;rw[<-ct]at s5;have e7:x_ (nY A c [x]=a_ A5 x.1.aJ.length c5):=Z_ e5;rw[e5]at df;dsimp only;rw[e5];obtain⟨x0,hA,iv⟩:=dD df;obtain⟨p0,-⟩:=aL U.c0;obtain⟨r1,e8⟩:=aL U.c1;obtain⟨r2,e9⟩:=aL (b:=w.heap.size+1+1) U.c2;obtain⟨r3,fb⟩:=aL (b:=w.heap.size+1+1+1) U.c3;obtain⟨bo,ad,G1,bp,a2⟩:=U.jv;obtain⟨⟨j0,j1,j2,j3⟩,fi,fr,bm⟩:=bp.cells;have j4:=Z_ s5;have J:=Z_ bp;have HI:=Z_ U;have ba:=Z_ df;have l7:=Z_ dv;clear cu e5 s5 bp df e4 dv ct U;have cg:G pj\/w.heap.size+5<=pj:=a2 pj J.o.jJ;have m0:¬pj=w.heap.size:=by rcases cg with h1|h1;(have:=HG.o pj h1;omega);omega
  have m1:¬pj=w.heap.size+1:=by rcases cg with h1|h1;(have:=HG.o pj h1;omega);omega
  have m2:¬pj=w.heap.size+1+1:=by rcases cg with h1|h1;(have:=HG.o pj h1;omega);omega
  have m3:¬pj=w.heap.size+1+1+1:=by rcases cg with h1|h1;(have:=HG.o pj h1;omega);omega
  have l8:¬w.heap.size=pj:=λe=>m0 e.symm
  have l9:¬w.heap.size+1=pj:=λe=>m1 e.symm
  have mb:¬w.heap.size+1+1=pj:=λe=>m2 e.symm
  have ml:¬w.heap.size+1+1+1=pj:=λe=>m3 e.symm
  have x2:¬bx=w.heap.size+1+1:=by omega
  have x3:¬bx=w.heap.size+1+1+1:=by omega
  have mv:¬w.heap.size+1+1=bx:=by omega
  have m4:¬w.heap.size+1+1+1=bx:=by omega
  have m7:¬w.heap.size+1=bx:=by omega
  have xp:¬bx=pj:=λe=>by
   have h1:=ba.o;have h2:=J.o.head;rw[e,h2]at h1;injection h1 with h1;injection h1 with h1 h3 h4;exact absurd h3 (by decide)
  have nb:¬pj=bx:=λe=>xp e.symm
  have bt:=Z_ g8;have hF:x_ (∀(V:j_),n_ W W V->CL pre x->KeepsFrom W0 W (V.setCell ⟨w+1,0,b_⟩ (u_ o_))/\Ji w G .ret (pre++[x]) (V.setCell ⟨w+1,0,b_⟩ (u_ o_))):=Z_ λV hV ch=>by
   have nc:=hV.size;refine⟨⟨by simp[Kd];omega,λk o hB hk _=>?_⟩,rfl,pre,x,rfl,ch,dk ((hV.block _ O_).trans HI.o.c1),(HI.o.kept.trans' (Kept.ar hV)).setCell (p:=⟨w+1,0,b_⟩) (.inr (by simp)) _,by simp[Kd];omega⟩;rw[ab (by simp;omega)];exact(hV.block k (F_ hk)).trans hk
  by_cases Z:pre=[]
  ·subst Z
   have nd:W.cell? ⟨w+1+1+1,0,b_⟩=c_ (e_ d_ 0):=r3;clear r3;by_cases h4:x.1.aJ.length=4
   ·have hq:((x.1.aJ.length:Int) !=4)=false:=by simp[h4]
    have bB:=Z_ (HI.o.first HG.o x h4 e6);rw[e7.o,<-bt.o]at bB;clear h4;gi_wp2;exact bB.o
   have hq:((x.1.aJ.length:Int) !=4)=true:=by simp;omega
   have cv:=Z_ (hF.o W B_ (.inl ⟨rfl,h4⟩));clear h4;gi_wp2;exact cv.o
  have eb:=Z_ Z;have hE:=nZ Z;have j6:((bD pre:Int)==0)=false:=by simp;omega
  clear Z;by_cases hg:x.1.gen=gW pre
  ·have hH:((x.1.gen:Int) !=(gW pre:Int))=false:=by simp[hg]
   clear r1 e8 r2 e9 fb;gi_wp2;refine cV K_ K_ K_ ?_
   repeat (any_goals (first|go_big_quiet_step (fail)|quiet_step (fail)))
   all_goals(refine wpQuiet_nil ?_;intro _ fz;obtain⟨nq,cx⟩:=fz;subst cx)
   clear r3 j6 hE;gi_wp2;obtain⟨X,hX⟩:=N_ (W.drewN nq);have ec:n_ W W X:=by rw[hX];exact below_drewN (JG _ W) nq
   rw[<-hX];have bn:=Z_ ec;have gi:X.cell? ⟨w,0,b_⟩=c_ (i_ (c_ ⟨pj,0,b_⟩)):=by rw[hX];exact p0
   have gn:X.cell? ⟨bx,1,b_⟩=c_ (a_ A5 x.1.aJ.length c5):=by rw[hX];exact hA
   have hJ:X.cell? ⟨pj,2,b_⟩=c_ bo:=by rw[hX];exact j2
   have j:x_ (X.drew.cell? ⟨w,0,b_⟩=c_ (i_ (c_ ⟨pj,0,b_⟩))/\X.drew.cell? ⟨bx,1,b_⟩=c_ (a_ A5 x.1.aJ.length c5)):=Z_ ⟨gi,gn⟩;have hL:x_ (Calls h_ 48 #[a_ A5 x.1.aJ.length c5] X.drew λe w2=>∃A2 c2,e=k_ (a_ A2 x.1.aJ.length c2)/\x_ (Par.Own w2 X 5 (a_ A2 x.1.aJ.length c2) (l_ x.1.aJ))/\x_ (n_ X X w2)/\(w2.cell? ⟨w,0,b_⟩=c_ (i_ (c_ ⟨pj,0,b_⟩))/\w2.cell? ⟨bx,1,b_⟩=c_ (a_ A5 x.1.aJ.length c5))/\w2.cell? ⟨pj,2,b_⟩=c_ bo):=Z_ (by
    refine(ln _ x.1.aJ X.drew ((j4.o.below ec).more ec.size) O_).mono ?_;rintro e w2 ⟨u2,rfl,hN,kf⟩;obtain⟨A2,c2,hO⟩:=hN.form;rw[t_]at hO;subst hO;have ee:n_ X X w2:=((JG _ X).drew).trans kf;exact⟨A2,c2,rfl,Z_ hN,Z_ ee,⟨(ee.cell (p:=⟨w,0,b_⟩) (JY _ _ gi)).trans gi,(ee.cell (p:=⟨bx,1,b_⟩) (JY _ _ gn)).trans gn⟩,(ee.cell (p:=⟨pj,2,b_⟩) (JY _ _ hJ)).trans hJ⟩)
   obtain⟨NL,cB⟩:=N_ ((dR (pre.drop 1)).length);have bN:x_ (ad.length=NL):=Z_ (by rw[cB];have:=J.o.mf.1;simpa using this);have gp:x_ (NL<=3000000):=Z_ (by rw[cB];have:=jP b;simp[dR];omega);have hP:=Z_ cB;have gv:x_ (bo.ownBlock≠c_ w.heap.size):=Z_ λe=>by rcases a2 _ (J.o.gb _ e).1 with h2|h2;(have:=HG.o _ h2;omega);omega
   have gy:x_ (bo.ownBlock≠c_ (w.heap.size+3)):=Z_ λe=>by rcases a2 _ (J.o.gb _ e).1 with h2|h2;(have:=HG.o _ h2;omega);omega
   have cm:x_ (bo.ownBlock≠c_ bx):=Z_ (AD J.o.mf ba.o (by decide));have cp:x_ (bo.ownBlock≠c_ pj):=Z_ λe=>(J.o.gb _ e).2 rfl
   have bO:x_ (bx≠pj):=Z_ λe=>by
    have h1:=ba.o;have h2:=J.o.head;rw[e,h2]at h1;injection h1 with h1;injection h1 with h1 h3 h4;exact absurd h3 (by decide)
   have gz:x_ (w.heap.size≠pj):=Z_ λe=>by rcases a2 _ J.o.jJ with h2|h2;(have:=HG.o _ h2;omega);omega
   have g2:x_ (w.heap.size+3≠pj):=Z_ λe=>by rcases a2 _ J.o.jJ with h2|h2;(have:=HG.o _ h2;omega);omega
   have bt:=Z_ g8;obtain⟨A1,c1,eA⟩:=Own.qY J.o.mf;rw[<-cB]at eA;have g4:=Z_ hg;clear cB hg;subst eA;clear hX ec hH p0 x0 hA iv j0 j1 j2 j3 fi fr bm;refine gS (S:=λw'=>w'.cell? ⟨w,0,b_⟩=c_ (i_ (c_ ⟨pj,0,b_⟩))/\w'.cell? ⟨bx,1,b_⟩=c_ (a_ A5 x.1.aJ.length c5)) K_ K_ (by rintro⟨_,_,h⟩;exact h) ?_;refine Jy (i:=0) (v:=i_ (c_ ⟨pj,0,b_⟩)) rfl K_ K_ K_ (λ_ _ _ h=>h) (Ke ⟨by rfl,λw' hS=>by obtain⟨s0,s1⟩:=hS;go_simp⟩) j.o ?_;refine Jy (i:=1) (v:=i_ (c_ ⟨pj,0,b_⟩)) rfl K_ K_ K_ (λ_ _ _ h=>h) (Ke ⟨by rfl,λw' hS=>by obtain⟨s0,s1⟩:=hS;go_simp⟩) j.o ?_;refine Jy (i:=2) (v:=i_ (c_ ⟨pj,0,b_⟩)) rfl K_ K_ K_ (λ_ _ _ h=>h) (Ke ⟨by rfl,λw' hS=>by obtain⟨s0,s1⟩:=hS;go_simp⟩) j.o ?_;refine Jy (i:=3) (v:=i_ (c_ ⟨pj,2,b_⟩)) rfl K_ K_ K_ (λ_ _ _ h=>h) (Ke ⟨by rfl,λw' hS=>by obtain⟨s0,s1⟩:=hS;go_simp⟩) j.o ?_;refine Jy (i:=5) (v:=i_ (c_ ⟨bx,1,b_⟩)) rfl K_ K_ K_ (λ_ _ _ h=>h) (Ke ⟨by rfl,λw' hS=>by obtain⟨s0,s1⟩:=hS;go_simp⟩) j.o ?_;refine Jy (i:=6) (v:=a_ A5 x.1.aJ.length c5) rfl K_ K_ K_ (λ_ _ _ h=>h) (Ke ⟨by rfl,λw' hS=>by obtain⟨s0,s1⟩:=hS;go_simp⟩) j.o ?_;refine K3 (rs:=[4,7]) K_ (by simp) ?_;intro i hi;simp only[JL,Ky,Lw]at hi;rcases hi with rfl|rfl
   ·refine cA rfl rfl (λK I=>?_)
    go_simp;refine I _ _ ⟨j.o,?_⟩;clear I K;refine ag 7 λK I=>?_
    go_simp;refine hL.o.mono ?_;rintro e w2 ⟨A2,c2,rfl,cb,bR,⟨q0,q1⟩,q3⟩;refine I _ _ ⟨⟨q0,q1⟩,?_⟩;clear I K;have bb:=Kn (f_ #[a_ A2 x.1.aJ.length c2] 24) q0;have bd:=Kn (f_ #[a_ A2 x.1.aJ.length c2] 24) q1;have cc:=Kn (f_ #[a_ A2 x.1.aJ.length c2] 24) q3;have B4:x_ (n_ W W (w2.alloc (f_ #[a_ A2 x.1.aJ.length c2] 24))):=Z_ ((bn.o.trans (bR.o.mono bn.o.size)).alloc (by have:=bn.o.size;have:=bR.o.size;omega) _);have bf:Par.Own (w2.alloc (f_ #[a_ A2 x.1.aJ.length c2] 24)) 0 24 (a_ A1 NL c1) ad:=by
     have:=(J.o.go B4.o).mf;rw[<-hP.o]at this;unfold Par.Own;rw[bN.o];exact this
    have cf:=Z_ bf;clear bf;refine ag 8 λK I=>?_
    go_simp;refine I _ _ ⟨⟨bb,bd⟩,?_⟩;clear I K;refine ag 9 λK I=>?_
    refine gj _ (.tmp 35) (.tmp 39) 22 rfl 0 24 _ j8 (a_ A1 NL c1) ad rfl cf.o _ _ [a_ A2 x.1.aJ.length c2] rfl (bw.new w2 24 #[a_ A2 x.1.aJ.length c2] [a_ A2 x.1.aJ.length c2] rfl (by simp[maxLen])) (λy hy=>by simp at hy;subst hy;rfl) (by have:=bN.o;have:=gp.o;simp only[Jz,JP];omega) (Km _) (λv3 w5 h2 h3 h4=>?_);have g0:=bl h3 bb (λe=>gv.o e);have g1:=bl h3 bd (λe=>cm.o e);have g3:=bl h3 cc (λe=>cp.o e);have O:x_ (w5.cell? ⟨w,0,b_⟩=c_ (i_ (c_ ⟨pj,0,b_⟩))/\w5.cell? ⟨bx,1,b_⟩=c_ (a_ A5 x.1.aJ.length c5)):=Z_ ⟨g0,g1⟩;refine I _ _ ⟨O.o,?_⟩;clear I K;obtain⟨A3,c3,b0⟩:=h2.form;have b1:w5.ownsRow 0 24 1 v3 (ad.length+1) (ad++[a_ A2 x.1.aJ.length c2]):=by have:=h2;unfold Par.Own at this;rw[p_]at this;exact this
    have bB:=Z_ (HI.o.next HG.o J.o eb.o a2 bn.o bR.o x g4.o cb.o _ b1 h3 (by simpa using h4));have b2:=h3.block pj (by have:=J.o.lt pj J.o.jJ;have:=B4.o.size;omega) (λe=>cp.o e.symm);have b3:w5.heap[pj]?=c_ (f_ #[i_ (c_ ⟨p,0,b_⟩),e_ KW (gW pre:Nat),a_ A1 NL c1,lv] 95 (0,0)):=b2.trans ((B4.o.block pj (J.o.lt pj J.o.jJ)).trans J.o.head);obtain⟨-,-,bm,-⟩:=dh b3;have av:w5.heap[bx]?=c_ (f_ #[e_ KW (x.1.gen:Nat),a_ A5 x.1.aJ.length c5,e_ d_ (x.1.stop:Nat)] 147 (0,0)):=(h3.block bx (by have:=F_ ba.o;have:=B4.o.size;omega) (λe=>cm.o e.symm)).trans ((B4.o.block bx (F_ ba.o)).trans ba.o);have a1:w5.heap[w.heap.size+3]?=c_ (f_ #[e_ d_ (bD pre:Nat)] 3 (0,0)):=(h3.block _ (by have:=HI.o.size;have:=B4.o.size;omega) (λe=>gy.o e.symm)).trans ((B4.o.block _ (by have:=HI.o.size;omega)).trans HI.o.c3);have cE:=Z_ ((ab (a:=⟨pj,2,b_⟩) (x:=v3) bO.o).trans av);have cF:=Z_ ((ab (a:=⟨pj,2,b_⟩) (x:=v3) g2.o).trans a1);clear h2 h3 h4 b1 b2 b3 av a1 cf cb q0 q1 q3 bb bd cc;have b5:v3=a_ A3 (ad.length+1) c3:=by rw[b0,p_];rfl
    clear b0;subst b5;refine Jy (i:=10) (v:=i_ (c_ ⟨pj,0,b_⟩)) rfl K_ K_ K_ (λ_ _ _ h=>h) (Ke ⟨by rfl,λw' hS=>by obtain⟨s0,s1⟩:=hS;go_simp⟩) O.o ?_;refine Jy (i:=11) (v:=i_ (c_ ⟨pj,2,b_⟩)) rfl K_ K_ K_ (λ_ _ _ h=>h) (Ke ⟨by rfl,λw' hS=>by obtain⟨s0,s1⟩:=hS;go_simp⟩) O.o ?_;refine ag 12 λK I=>?_
    go_simp;refine I _ _ ⟨⟨(JA _ _ _ _ (λe=>gz.o (by injection e with e1;exact e1.symm))).trans O.o.1,(JA _ _ _ _ (λe=>bO.o (by injection e with e1;exact e1.symm))).trans O.o.2⟩,?_⟩;clear I K;refine J6 K_ ?_ _;obtain⟨-,-,f2⟩:=dD cE.o;obtain⟨f5,f6⟩:=aL (b:=w.heap.size+1+1+1) cF.o;clear g0 g1 g3 bm;gi_wp2;have:=bB.o;rw[<-bt.o]at this;exact this
   refine cA rfl rfl (λK I=>?_);go_simp;refine hL.o.mono ?_;rintro e w2 ⟨A2,c2,rfl,cb,bR,⟨q0,q1⟩,q3⟩;refine I _ _ ⟨⟨q0,q1⟩,?_⟩;clear I K;have bb:=Kn (f_ #[a_ A2 x.1.aJ.length c2] 24) q0;have bd:=Kn (f_ #[a_ A2 x.1.aJ.length c2] 24) q1;have cc:=Kn (f_ #[a_ A2 x.1.aJ.length c2] 24) q3;have B4:x_ (n_ W W (w2.alloc (f_ #[a_ A2 x.1.aJ.length c2] 24))):=Z_ ((bn.o.trans (bR.o.mono bn.o.size)).alloc (by have:=bn.o.size;have:=bR.o.size;omega) _);have bf:Par.Own (w2.alloc (f_ #[a_ A2 x.1.aJ.length c2] 24)) 0 24 (a_ A1 NL c1) ad:=by
    have:=(J.o.go B4.o).mf;rw[<-hP.o]at this;unfold Par.Own;rw[bN.o];exact this
   have cf:=Z_ bf;clear bf;refine K3 (rs:=[4,8]) K_ (by simp) ?_;intro i hi;simp only[JL,Ky,Lw]at hi;rcases hi with rfl|rfl
   ·refine cA rfl rfl (λK I=>?_)
    go_simp;refine I _ _ ⟨⟨q0,q1⟩,?_⟩;clear I K;refine ag 8 λK I=>?_
    go_simp;refine I _ _ ⟨⟨bb,bd⟩,?_⟩;clear I K;refine ag 9 λK I=>?_
    refine gj _ (.tmp 35) (.tmp 39) 22 rfl 0 24 _ j8 (a_ A1 NL c1) ad rfl cf.o _ _ [a_ A2 x.1.aJ.length c2] rfl (bw.new w2 24 #[a_ A2 x.1.aJ.length c2] [a_ A2 x.1.aJ.length c2] rfl (by simp[maxLen])) (λy hy=>by simp at hy;subst hy;rfl) (by have:=bN.o;have:=gp.o;simp only[Jz,JP];omega) (Km _) (λv3 w5 h2 h3 h4=>?_);have g0:=bl h3 bb (λe=>gv.o e);have g1:=bl h3 bd (λe=>cm.o e);have g3:=bl h3 cc (λe=>cp.o e);have O:x_ (w5.cell? ⟨w,0,b_⟩=c_ (i_ (c_ ⟨pj,0,b_⟩))/\w5.cell? ⟨bx,1,b_⟩=c_ (a_ A5 x.1.aJ.length c5)):=Z_ ⟨g0,g1⟩;refine I _ _ ⟨O.o,?_⟩;clear I K;obtain⟨A3,c3,b0⟩:=h2.form;have b1:w5.ownsRow 0 24 1 v3 (ad.length+1) (ad++[a_ A2 x.1.aJ.length c2]):=by have:=h2;unfold Par.Own at this;rw[p_]at this;exact this
    have bB:=Z_ (HI.o.next HG.o J.o eb.o a2 bn.o bR.o x g4.o cb.o _ b1 h3 (by simpa using h4));have b2:=h3.block pj (by have:=J.o.lt pj J.o.jJ;have:=B4.o.size;omega) (λe=>cp.o e.symm);have b3:w5.heap[pj]?=c_ (f_ #[i_ (c_ ⟨p,0,b_⟩),e_ KW (gW pre:Nat),a_ A1 NL c1,lv] 95 (0,0)):=b2.trans ((B4.o.block pj (J.o.lt pj J.o.jJ)).trans J.o.head);obtain⟨-,-,bm,-⟩:=dh b3;have av:w5.heap[bx]?=c_ (f_ #[e_ KW (x.1.gen:Nat),a_ A5 x.1.aJ.length c5,e_ d_ (x.1.stop:Nat)] 147 (0,0)):=(h3.block bx (by have:=F_ ba.o;have:=B4.o.size;omega) (λe=>cm.o e.symm)).trans ((B4.o.block bx (F_ ba.o)).trans ba.o);have a1:w5.heap[w.heap.size+3]?=c_ (f_ #[e_ d_ (bD pre:Nat)] 3 (0,0)):=(h3.block _ (by have:=HI.o.size;have:=B4.o.size;omega) (λe=>gy.o e.symm)).trans ((B4.o.block _ (by have:=HI.o.size;omega)).trans HI.o.c3);have cE:=Z_ ((ab (a:=⟨pj,2,b_⟩) (x:=v3) bO.o).trans av);have cF:=Z_ ((ab (a:=⟨pj,2,b_⟩) (x:=v3) g2.o).trans a1);clear h2 h3 h4 b1 b2 b3 av a1 cf cb q0 q1 q3 bb bd cc;have b5:v3=a_ A3 (ad.length+1) c3:=by rw[b0,p_];rfl
    clear b0;subst b5;refine Jy (i:=10) (v:=i_ (c_ ⟨pj,0,b_⟩)) rfl K_ K_ K_ (λ_ _ _ h=>h) (Ke ⟨by rfl,λw' hS=>by obtain⟨s0,s1⟩:=hS;go_simp⟩) O.o ?_;refine Jy (i:=11) (v:=i_ (c_ ⟨pj,2,b_⟩)) rfl K_ K_ K_ (λ_ _ _ h=>h) (Ke ⟨by rfl,λw' hS=>by obtain⟨s0,s1⟩:=hS;go_simp⟩) O.o ?_;refine ag 12 λK I=>?_
    go_simp;refine I _ _ ⟨⟨(JA _ _ _ _ (λe=>gz.o (by injection e with e1;exact e1.symm))).trans O.o.1,(JA _ _ _ _ (λe=>bO.o (by injection e with e1;exact e1.symm))).trans O.o.2⟩,?_⟩;clear I K;refine J6 K_ ?_ _;obtain⟨-,-,f2⟩:=dD cE.o;obtain⟨f5,f6⟩:=aL (b:=w.heap.size+1+1+1) cF.o;clear g0 g1 g3 bm;gi_wp2;have:=bB.o;rw[<-bt.o]at this;exact this
   refine cA rfl rfl (λK I=>?_);go_simp;refine I _ _ ⟨⟨bb,bd⟩,?_⟩;clear I K;refine ag 4 λK I=>?_
   go_simp;refine I _ _ ⟨⟨bb,bd⟩,?_⟩;clear I K;refine ag 9 λK I=>?_
   refine gj _ (.tmp 35) (.tmp 39) 22 rfl 0 24 _ j8 (a_ A1 NL c1) ad rfl cf.o _ _ [a_ A2 x.1.aJ.length c2] rfl (bw.new w2 24 #[a_ A2 x.1.aJ.length c2] [a_ A2 x.1.aJ.length c2] rfl (by simp[maxLen])) (λy hy=>by simp at hy;subst hy;rfl) (by have:=bN.o;have:=gp.o;simp only[Jz,JP];omega) (Km _) (λv3 w5 h2 h3 h4=>?_);have g0:=bl h3 bb (λe=>gv.o e);have g1:=bl h3 bd (λe=>cm.o e);have g3:=bl h3 cc (λe=>cp.o e);have O:x_ (w5.cell? ⟨w,0,b_⟩=c_ (i_ (c_ ⟨pj,0,b_⟩))/\w5.cell? ⟨bx,1,b_⟩=c_ (a_ A5 x.1.aJ.length c5)):=Z_ ⟨g0,g1⟩;refine I _ _ ⟨O.o,?_⟩;clear I K;obtain⟨A3,c3,b0⟩:=h2.form;have b1:w5.ownsRow 0 24 1 v3 (ad.length+1) (ad++[a_ A2 x.1.aJ.length c2]):=by have:=h2;unfold Par.Own at this;rw[p_]at this;exact this
   have bB:=Z_ (HI.o.next HG.o J.o eb.o a2 bn.o bR.o x g4.o cb.o _ b1 h3 (by simpa using h4));have b2:=h3.block pj (by have:=J.o.lt pj J.o.jJ;have:=B4.o.size;omega) (λe=>cp.o e.symm);have b3:w5.heap[pj]?=c_ (f_ #[i_ (c_ ⟨p,0,b_⟩),e_ KW (gW pre:Nat),a_ A1 NL c1,lv] 95 (0,0)):=b2.trans ((B4.o.block pj (J.o.lt pj J.o.jJ)).trans J.o.head);obtain⟨-,-,bm,-⟩:=dh b3;have av:w5.heap[bx]?=c_ (f_ #[e_ KW (x.1.gen:Nat),a_ A5 x.1.aJ.length c5,e_ d_ (x.1.stop:Nat)] 147 (0,0)):=(h3.block bx (by have:=F_ ba.o;have:=B4.o.size;omega) (λe=>cm.o e.symm)).trans ((B4.o.block bx (F_ ba.o)).trans ba.o);have a1:w5.heap[w.heap.size+3]?=c_ (f_ #[e_ d_ (bD pre:Nat)] 3 (0,0)):=(h3.block _ (by have:=HI.o.size;have:=B4.o.size;omega) (λe=>gy.o e.symm)).trans ((B4.o.block _ (by have:=HI.o.size;omega)).trans HI.o.c3);have cE:=Z_ ((ab (a:=⟨pj,2,b_⟩) (x:=v3) bO.o).trans av);have cF:=Z_ ((ab (a:=⟨pj,2,b_⟩) (x:=v3) g2.o).trans a1);clear h2 h3 h4 b1 b2 b3 av a1 cf cb q0 q1 q3 bb bd cc;have b5:v3=a_ A3 (ad.length+1) c3:=by rw[b0,p_];rfl
   clear b0;subst b5;refine Jy (i:=10) (v:=i_ (c_ ⟨pj,0,b_⟩)) rfl K_ K_ K_ (λ_ _ _ h=>h) (Ke ⟨by rfl,λw' hS=>by obtain⟨s0,s1⟩:=hS;go_simp⟩) O.o ?_;refine Jy (i:=11) (v:=i_ (c_ ⟨pj,2,b_⟩)) rfl K_ K_ K_ (λ_ _ _ h=>h) (Ke ⟨by rfl,λw' hS=>by obtain⟨s0,s1⟩:=hS;go_simp⟩) O.o ?_;refine ag 12 λK I=>?_
   go_simp;refine I _ _ ⟨⟨(JA _ _ _ _ (λe=>gz.o (by injection e with e1;exact e1.symm))).trans O.o.1,(JA _ _ _ _ (λe=>bO.o (by injection e with e1;exact e1.symm))).trans O.o.2⟩,?_⟩;clear I K;refine J6 K_ ?_ _;obtain⟨-,-,f2⟩:=dD cE.o;obtain⟨f5,f6⟩:=aL (b:=w.heap.size+1+1+1) cF.o;clear g0 g1 g3 bm;gi_wp2;have:=bB.o;rw[<-bt.o]at this;exact this
  have hH:((x.1.gen:Int) !=(gW pre:Int))=true:=by simp;omega
  have cv:=λnq=>hF.o (W.drewN nq) (below_drewN (JG _ W) nq) (.inr ⟨eb.o,hg⟩)
  have cv:=Z_ cv;gi_wp2;refine cV K_ K_ K_ ?_
  repeat (any_goals (first|go_big_quiet_step (fail)|quiet_step (fail)))
  all_goals(refine wpQuiet_nil ?_;intro _ fz;obtain⟨nq,cx⟩:=fz;subst cx)
  gi_wp2;exact cv.o nq
 case done=>
  rintro D ys W hD rfl U I;obtain⟨bo,ad,G1,bp,a2⟩:=U.jv;obtain⟨⟨j0,j1,j2,j3⟩,fi,fr,bm⟩:=bp.cells;obtain⟨p0,-⟩:=aL U.c0;obtain⟨r1,e8⟩:=aL U.c1;obtain⟨r2,e9⟩:=aL (b:=w.heap.size+1+1) U.c2;obtain⟨r3,fb⟩:=aL (b:=w.heap.size+1+1+1) U.c3;have eg:x_ (∀(V:j_) (r:Bool),n_ W W V->(V.setCell ⟨w+1,0,b_⟩ (u_ r)).heap[D]?=c_ (.deferred (c_ []))):=Z_ λV r hV=>by
   rw[ab (by simp;omega)];exact(hV.block D (F_ I)).trans I
  have en:x_ (∀(V:j_) (r:Bool),n_ W W V->r=(bP b).isSome->((V.setCell ⟨w+1,0,b_⟩ (u_ r)).putObj D (.deferred b_)).cell? ⟨w+1,0,b_⟩=c_ (u_ r)/\Kept G w ((V.setCell ⟨w+1,0,b_⟩ (u_ r)).putObj D (.deferred b_))/\
    ∀(g:Nat) (ps:List (List UInt8)),bP b=c_ (g,ps)->∃bv bs G',JV ((V.setCell ⟨w+1,0,b_⟩ (u_ r)).putObj D (.deferred b_)) pj p g bv lv bs us ps log G'/\aH w G G'):=Z_ λV r hV hr=>by
   have hQ:=U.go hV;have kh:=(hV.block D (F_ I)).trans I;refine⟨(aL ((World.putObj_heap_other O_).trans (dk hQ.c1))).1,?_,λg ps e=>?_⟩
   ·exact(hQ.kept.setCell (p:=⟨w+1,0,b_⟩) (.inr (by simp)) _).grown (grownBy_putObj' _ D (.deferred b_)) (λk e=>by cases e;exact .inr O_)
   have hj:=bp.go hV;have hR:gW (dM b)=g/\dR ((dM b).drop 1)=ps:=by
    unfold bP at e;split at e
    ·cases e
    rename_i y ys hy
    split at e
    ·cases e;rw[hy];exact⟨rfl,rfl⟩
    cases e
   rw[hR.1,hR.2]at hj;refine⟨bo,ad,G1,hj.block λk hk=>?_,λk hk=>(a2 k hk).imp id (λh=>by omega)⟩;have h1:k≠w.heap.size+1:=by rcases a2 k hk with h2|h2;(have:=HG.o k h2;omega);omega
   have h2:k≠D:=λe=>by
    obtain⟨o,ho,hc⟩:=hj.EA k hk;rw[e,kh]at ho;cases ho;cases hc
   rw[World.putObj_heap_other h2,ab h1]
  have HI:=Z_ U;have J:=Z_ bp;clear U bp;have nf:w.heap.size+5<=W.heap.size:=HI.o.size;have c6:x_ (n_ W W W.drew):=Z_ ((JG _ W).drew);obtain⟨A1,c1,eC⟩:=Own.qY J.o.mf;obtain⟨NB,g5⟩:=N_ ((dR ((dM b).drop 1)).length);obtain⟨E,hE⟩:=N_ (bD (dM b));obtain⟨CV,g6⟩:=N_ (nY A c (dM b));rw[<-g5]at eC;rw[<-hE]at r3;rw[<-g6]at r2;rw[eC]at j2;have HE:=Z_ hE;have bO:=Z_ g5;have e7:=Z_ g6;have eo:x_ (pj≠w.heap.size+1):=Z_ (by rcases a2 pj J.o.jJ with h1|h1;(have:=HG.o pj h1;omega);omega);have j:x_ (W.drew.cell? ⟨w+1+1+1,0,b_⟩=c_ (e_ d_ (E:Nat))/\W.drew.cell? ⟨w,0,b_⟩=c_ (i_ (c_ ⟨pj,0,b_⟩))/\W.drew.cell? ⟨pj,2,b_⟩=c_ (a_ A1 NB c1)/\W.drew.cell? ⟨w+1+1,0,b_⟩=c_ CV):=Z_ ⟨r3,p0,j2,r2⟩;clear hE g5 g6 r3 j0 j1 j2 j3 fi fr bm p0 r2 e9 fb;by_cases Z:dM b=[]
  ·have bg:x_ (o_=(bP b).isSome):=Z_ (by unfold bP;rw[Z];rfl)
   have nm:¬(0:Int)<(E:Int):=by rw[HE.o,Z];simp[bD]
   have hT:decide (0<E)=false:=by simp;omega
   clear Z;gi_wp2;refine wpIn_wide.2 ?_;refine fh (S:=(λw'=>w'.cell? ⟨w+1+1+1,0,b_⟩=c_ (e_ d_ (E:Nat))/\w'.cell? ⟨w,0,b_⟩=c_ (i_ (c_ ⟨pj,0,b_⟩))/\w'.cell? ⟨pj,2,b_⟩=c_ (a_ A1 NB c1)/\w'.cell? ⟨w+1+1,0,b_⟩=c_ CV)) K_ ?_;refine fx 0 45 (e_ d_ (E:Nat)) j.o ?_;refine fx 1 46 (u_ o_) j.o ?_;refine fx 2 47 (u_ o_) j.o ?_;refine bI 3 48 q_ j.o ?_;refine bI 4 49 q_ j.o ?_;refine bI 5 50 q_ j.o ?_;refine bI 6 51 q_ j.o ?_;refine fx 7 52 (u_ o_) j.o ?_;refine fx 8 53 (u_ o_) j.o ?_;refine bI 9 54 q_ j.o ?_;refine bI 10 55 q_ j.o ?_;refine bI 11 56 q_ j.o ?_;refine bI 12 57 q_ j.o ?_;refine bI 13 58 q_ j.o ?_;refine bI 14 59 q_ j.o ?_;refine bI 15 60 q_ j.o ?_;refine bI 16 61 q_ j.o ?_;refine bI 17 62 q_ j.o ?_;refine fx 18 63 (u_ o_) j.o ?_;refine ag 19 λK I=>?_
   go_simp;refine I _ _ ⟨⟨(JA _ _ _ _ (λe=>by injection e with e1;omega)).trans j.o.1,(JA _ _ _ _ (λe=>by injection e with e1;omega)).trans j.o.2.1,(JA _ _ _ _ (λe=>by injection e with e1;exact eo.o e1.symm)).trans j.o.2.2.1,(JA _ _ _ _ (λe=>by injection e with e1;omega)).trans j.o.2.2.2⟩,?_⟩;clear I K;refine J6 K_ ?_ _;gi_wp2;refine⟨by simp,.inl ⟨_,_,rfl,run_takeDeferred (show((W.setCell ⟨w+1,0,b_⟩ (u_ o_)).drew).heap[D]?=c_ (.deferred (c_ []))from eg.o W.drew o_ c6.o),?_⟩⟩;obtain⟨f4,f5,f6⟩:=en.o W.drew o_ c6.o bg.o;have g7:((W.setCell ⟨w+1,0,b_⟩ (u_ o_)).drew.putObj D (.deferred b_)).cell? ⟨w+1,0,b_⟩=c_ (u_ o_):=f4;exact⟨u_ o_,by simp[results,Tryz.results43,go_sem,g7],by rw[<-bg.o],f5,f6⟩
  by_cases b6:E=b.length
  ·obtain⟨y,ys,hy⟩:∃y ys,dM b=y::ys:=by
    cases hf:dM b with
    |nil=>exact absurd hf Z
    |cons y ys=>exact⟨y,ys,rfl⟩
   have hU:=HI.o.ok;rw[hy]at hU;obtain⟨ck,e0⟩:=hU;obtain⟨e4,dv,ht,ct,e6,hz⟩:=dB y.2;have cu:bw W W (a_ A b.length c) (l_ b):=(hd.o.ae (S':=λk=>k<w.heap.size) λk hk=>⟨hk.1,HI.o.kept.block k hk.1 hk.2⟩).dH λk hk=>by omega
   obtain⟨-,A5,c5,e5,s5⟩:=lG cu (y.1.start+12) y.1.stop O_ O_;rw[show y.1.stop - (y.1.start+12)=y.1.aJ.length by omega]at e5 s5;rw[<-ct]at s5;have hM:=fH y.1.aJ;have hv:=tL _ _ _ W.drew s5 O_;have km:CV=a_ A5 4 c5:=by rw[e7.o,hy];show sliced A (y.1.start+12) y.1.stop c 1=_;rw[e5,ck]
   obtain⟨M,c7⟩:=N_ (cj y.1.aJ);rw[ck,<-c7]at hv;rw[<-c7]at hM;subst km;have hW:x_ (Calls h_ 83 #[a_ A5 4 c5] W.drew λe V=>e=k_ (e_ KW (M:Nat))/\x_ (V.cell? ⟨w+1+1+1,0,b_⟩=c_ (e_ d_ (E:Nat))/\V.cell? ⟨w,0,b_⟩=c_ (i_ (c_ ⟨pj,0,b_⟩))/\V.cell? ⟨pj,2,b_⟩=c_ (a_ A1 NB c1)/\V.cell? ⟨w+1+1,0,b_⟩=c_ (a_ A5 4 c5))/\x_ (n_ W W V)/\V.cell? ⟨w+1,0,b_⟩=c_ (u_ o_)/\V.frozen? ⟨w+1,0,b_⟩=o_):=Z_ (by
    refine hv.mono ?_;rintro e V ⟨rfl,n,rfl⟩;exact⟨rfl,Z_ j.o,Z_ (below_drewN c6.o n),r1,e8⟩)
   have cl:x_ (decide (NB=M)=(bP b).isSome):=Z_ (by
    have hY:NB=ys.length:=by rw[bO.o,hy];simp[dR]
    unfold bP;rw[hy];simp only;by_cases hc:ys.length=cj y.1.aJ
    ·rw[G_ ⟨ck,e0,by rw[<-hy,<-HE.o,b6],hc⟩,JR (by rw[hY,c7];exact hc)];rfl
    rw[I_ (λh3=>hc h3.2.2.2),JJ (by rw[hY,c7];exact hc)];rfl)
   have nn:d_.wrap (M:Int)=(M:Int):=IntWalk.i64_in _ O_;have kn:12<=E:=by rw[HE.o];exact nZ Z
   have kr:(0:Int)<(E:Int):=by omega
   have ks:((E:Int)==(b.length:Int))=true:=by simp;omega
   have k5:(E==b.length)=true:=by simpa using b6
   have hT:decide (0<E)=true:=by simp;omega
   clear Z hy ck e0 e4 dv ht ct e6 hz cu e5 s5 hv c7 b6;by_cases bj:NB=M
   ·have bg:x_ (v_=(bP b).isSome):=Z_ (by rw[<-cl.o,JR bj])
    have c8:((NB:Int)==(M:Int))=true:=by simp;omega
    have k6:(NB==M)=true:=by simpa using bj
    clear bj cl;gi_wp2;refine wpIn_wide.2 ?_;refine fh (S:=(λw'=>w'.cell? ⟨w+1+1+1,0,b_⟩=c_ (e_ d_ (E:Nat))/\w'.cell? ⟨w,0,b_⟩=c_ (i_ (c_ ⟨pj,0,b_⟩))/\w'.cell? ⟨pj,2,b_⟩=c_ (a_ A1 NB c1)/\w'.cell? ⟨w+1+1,0,b_⟩=c_ (a_ A5 4 c5))) K_ ?_;refine fx 0 45 (e_ d_ (E:Nat)) j.o ?_;refine fx 1 46 (u_ v_) j.o ?_;refine fx 2 47 (u_ v_) j.o ?_;refine fx 3 48 (e_ d_ (E:Nat)) j.o ?_;refine fx 4 49 (a_ A b.length c) j.o ?_;refine fx 5 50 (e_ d_ b.length) j.o ?_;refine fx 6 51 (u_ v_) j.o ?_;refine fx 7 52 (u_ v_) j.o ?_;refine fx 8 53 (u_ v_) j.o ?_;refine fx 9 54 (i_ (c_ ⟨pj,0,b_⟩)) j.o ?_;refine fx 10 55 (i_ (c_ ⟨pj,0,b_⟩)) j.o ?_;refine fx 11 56 (i_ (c_ ⟨pj,2,b_⟩)) j.o ?_;refine fx 12 57 (a_ A1 NB c1) j.o ?_;refine fx 13 58 (e_ d_ (NB:Nat)) j.o ?_;refine fx 14 59 (a_ A5 4 c5) j.o ?_;refine ag 15 λK I=>?_
    go_simp;refine hW.o.mono ?_;rintro e V ⟨rfl,ak,c9,v1,v2⟩;refine I _ _ ⟨ak.o,?_⟩;clear I K;change Md _ _ _ _ _ _ _ {tmps:=#[i_ (c_ ⟨pj,0,b_⟩),a_ A b.length c,i_ (c_ ⟨w,0,b_⟩),q_,i_ (c_ ⟨w+1,0,b_⟩),i_ (c_ ⟨w+1+1,0,b_⟩),i_ (c_ ⟨w+1+1+1,0,b_⟩),q_,a_ A b.length c,.func (.func 123) #[] #[i_ (c_ ⟨w+1+1+1+1,0,b_⟩)],q_,q_,q_,q_,q_,q_,q_,q_,q_,q_,q_,q_,q_,q_,q_,q_,q_,q_,q_,q_,q_,q_,q_,q_,q_,q_,q_,q_,q_,q_,q_,q_,q_,q_,q_,e_ d_ (E:Nat),u_ v_,u_ v_,e_ d_ (E:Nat),a_ A b.length c,e_ d_ b.length,u_ v_,u_ v_,u_ v_,i_ (c_ ⟨pj,0,b_⟩),i_ (c_ ⟨pj,0,b_⟩),i_ (c_ ⟨pj,2,b_⟩),a_ A1 NB c1,e_ d_ (NB:Nat),a_ A5 4 c5,e_ KW (M:Nat),q_,q_,q_],defers:=[{target:=.collected D,args:=#[]}]} _;refine fx 16 61 (e_ d_ (M:Nat)) ak.o ?_;refine fx 17 62 (u_ v_) ak.o ?_;refine fx 18 63 (u_ v_) ak.o ?_;refine ag 19 λK I=>?_
    go_simp;refine I _ _ ⟨⟨(JA _ _ _ _ (λe=>by injection e with e1;omega)).trans ak.o.1,(JA _ _ _ _ (λe=>by injection e with e1;omega)).trans ak.o.2.1,(JA _ _ _ _ (λe=>by injection e with e1;exact eo.o e1.symm)).trans ak.o.2.2.1,(JA _ _ _ _ (λe=>by injection e with e1;omega)).trans ak.o.2.2.2⟩,?_⟩;clear I K;refine J6 K_ ?_ _;gi_wp2;refine⟨by simp,.inl ⟨_,_,rfl,run_takeDeferred (eg.o _ _ c9.o),?_⟩⟩;obtain⟨f4,f5,f6⟩:=en.o _ v_ c9.o bg.o;exact⟨u_ v_,by simp[results,Tryz.results43,go_sem,f4],by rw[<-bg.o],f5,f6⟩
   have bg:x_ (o_=(bP b).isSome):=Z_ (by rw[<-cl.o,JJ bj]);have c8:((NB:Int)==(M:Int))=false:=by simp;omega
   have k6:(NB==M)=false:=by simpa using bj
   clear bj cl;gi_wp2;refine wpIn_wide.2 ?_;refine fh (S:=(λw'=>w'.cell? ⟨w+1+1+1,0,b_⟩=c_ (e_ d_ (E:Nat))/\w'.cell? ⟨w,0,b_⟩=c_ (i_ (c_ ⟨pj,0,b_⟩))/\w'.cell? ⟨pj,2,b_⟩=c_ (a_ A1 NB c1)/\w'.cell? ⟨w+1+1,0,b_⟩=c_ (a_ A5 4 c5))) K_ ?_;refine fx 0 45 (e_ d_ (E:Nat)) j.o ?_;refine fx 1 46 (u_ v_) j.o ?_;refine fx 2 47 (u_ v_) j.o ?_;refine fx 3 48 (e_ d_ (E:Nat)) j.o ?_;refine fx 4 49 (a_ A b.length c) j.o ?_;refine fx 5 50 (e_ d_ b.length) j.o ?_;refine fx 6 51 (u_ v_) j.o ?_;refine fx 7 52 (u_ v_) j.o ?_;refine fx 8 53 (u_ v_) j.o ?_;refine fx 9 54 (i_ (c_ ⟨pj,0,b_⟩)) j.o ?_;refine fx 10 55 (i_ (c_ ⟨pj,0,b_⟩)) j.o ?_;refine fx 11 56 (i_ (c_ ⟨pj,2,b_⟩)) j.o ?_;refine fx 12 57 (a_ A1 NB c1) j.o ?_;refine fx 13 58 (e_ d_ (NB:Nat)) j.o ?_;refine fx 14 59 (a_ A5 4 c5) j.o ?_;refine ag 15 λK I=>?_
   go_simp;refine hW.o.mono ?_;rintro e V ⟨rfl,ak,c9,v1,v2⟩;refine I _ _ ⟨ak.o,?_⟩;clear I K;change Md _ _ _ _ _ _ _ {tmps:=#[i_ (c_ ⟨pj,0,b_⟩),a_ A b.length c,i_ (c_ ⟨w,0,b_⟩),q_,i_ (c_ ⟨w+1,0,b_⟩),i_ (c_ ⟨w+1+1,0,b_⟩),i_ (c_ ⟨w+1+1+1,0,b_⟩),q_,a_ A b.length c,.func (.func 123) #[] #[i_ (c_ ⟨w+1+1+1+1,0,b_⟩)],q_,q_,q_,q_,q_,q_,q_,q_,q_,q_,q_,q_,q_,q_,q_,q_,q_,q_,q_,q_,q_,q_,q_,q_,q_,q_,q_,q_,q_,q_,q_,q_,q_,q_,q_,e_ d_ (E:Nat),u_ v_,u_ v_,e_ d_ (E:Nat),a_ A b.length c,e_ d_ b.length,u_ v_,u_ v_,u_ v_,i_ (c_ ⟨pj,0,b_⟩),i_ (c_ ⟨pj,0,b_⟩),i_ (c_ ⟨pj,2,b_⟩),a_ A1 NB c1,e_ d_ (NB:Nat),a_ A5 4 c5,e_ KW (M:Nat),q_,q_,q_],defers:=[{target:=.collected D,args:=#[]}]} _;refine fx 16 61 (e_ d_ (M:Nat)) ak.o ?_;refine fx 17 62 (u_ o_) ak.o ?_;refine fx 18 63 (u_ o_) ak.o ?_;refine ag 19 λK I=>?_
   go_simp;refine I _ _ ⟨⟨(JA _ _ _ _ (λe=>by injection e with e1;omega)).trans ak.o.1,(JA _ _ _ _ (λe=>by injection e with e1;omega)).trans ak.o.2.1,(JA _ _ _ _ (λe=>by injection e with e1;exact eo.o e1.symm)).trans ak.o.2.2.1,(JA _ _ _ _ (λe=>by injection e with e1;omega)).trans ak.o.2.2.2⟩,?_⟩;clear I K;refine J6 K_ ?_ _;gi_wp2;refine⟨by simp,.inl ⟨_,_,rfl,run_takeDeferred (eg.o _ _ c9.o),?_⟩⟩;obtain⟨f4,f5,f6⟩:=en.o _ o_ c9.o bg.o;exact⟨u_ o_,by simp[results,Tryz.results43,go_sem,f4],by rw[<-bg.o],f5,f6⟩
  have bg:x_ (o_=(bP b).isSome):=Z_ (by
   unfold bP;split
   ·rfl
   rename_i y ys hy
   rw[I_ (λh3=>b6 (by rw[HE.o,hy];exact h3.2.2.1))];rfl)
  have kn:12<=E:=by rw[HE.o];exact nZ Z
  have kr:(0:Int)<(E:Int):=by omega
  have ks:((E:Int)==(b.length:Int))=false:=by simp;omega
  have k5:(E==b.length)=false:=by simpa using b6
  have hT:decide (0<E)=true:=by simp;omega
  clear Z;gi_wp2;refine wpIn_wide.2 ?_;refine fh (S:=(λw'=>w'.cell? ⟨w+1+1+1,0,b_⟩=c_ (e_ d_ (E:Nat))/\w'.cell? ⟨w,0,b_⟩=c_ (i_ (c_ ⟨pj,0,b_⟩))/\w'.cell? ⟨pj,2,b_⟩=c_ (a_ A1 NB c1)/\w'.cell? ⟨w+1+1,0,b_⟩=c_ CV)) K_ ?_;refine fx 0 45 (e_ d_ (E:Nat)) j.o ?_;refine fx 1 46 (u_ v_) j.o ?_;refine fx 2 47 (u_ v_) j.o ?_;refine fx 3 48 (e_ d_ (E:Nat)) j.o ?_;refine fx 4 49 (a_ A b.length c) j.o ?_;refine fx 5 50 (e_ d_ b.length) j.o ?_;refine fx 6 51 (u_ o_) j.o ?_;refine fx 7 52 (u_ o_) j.o ?_;refine fx 8 53 (u_ o_) j.o ?_;refine bI 9 54 q_ j.o ?_;refine bI 10 55 q_ j.o ?_;refine bI 11 56 q_ j.o ?_;refine bI 12 57 q_ j.o ?_;refine bI 13 58 q_ j.o ?_;refine bI 14 59 q_ j.o ?_;refine bI 15 60 q_ j.o ?_;refine bI 16 61 q_ j.o ?_;refine bI 17 62 q_ j.o ?_;refine fx 18 63 (u_ o_) j.o ?_;refine ag 19 λK I=>?_
  go_simp;refine I _ _ ⟨⟨(JA _ _ _ _ (λe=>by injection e with e1;omega)).trans j.o.1,(JA _ _ _ _ (λe=>by injection e with e1;omega)).trans j.o.2.1,(JA _ _ _ _ (λe=>by injection e with e1;exact eo.o e1.symm)).trans j.o.2.2.1,(JA _ _ _ _ (λe=>by injection e with e1;omega)).trans j.o.2.2.2⟩,?_⟩;clear I K;refine J6 K_ ?_ _;gi_wp2;refine⟨by simp,.inl ⟨_,_,rfl,run_takeDeferred (show((W.setCell ⟨w+1,0,b_⟩ (u_ o_)).drew).heap[D]?=c_ (.deferred (c_ []))from eg.o W.drew o_ c6.o),?_⟩⟩;obtain⟨f4,f5,f6⟩:=en.o W.drew o_ c6.o bg.o;have g7:((W.setCell ⟨w+1,0,b_⟩ (u_ o_)).drew.putObj D (.deferred b_)).cell? ⟨w+1,0,b_⟩=c_ (u_ o_):=f4;exact⟨u_ o_,by simp[results,Tryz.results43,go_sem,g7],by rw[<-bg.o],f5,f6⟩
 rintro D cd xs W hD h7 ⟨rfl,pre,x,rfl,ch,c8,h8,nr⟩ I;obtain⟨f1,f2⟩:=aL c8;have HB:x_ (bP b=b_):=Z_ (ya ch h7);have k7:=Z_ h8;have k8:=Z_ c8;clear ch h7 h8 c8;gi_wp2;refine⟨by simp,.inl ⟨_,_,rfl,run_takeDeferred I,?_⟩⟩;have f3:(W.putObj D (.deferred b_)).heap[w.heap.size+1]?=c_ (f_ #[u_ o_] 4 (0,0)):=(World.putObj_heap_other O_).trans k8.o;obtain⟨f4,-⟩:=aL f3;refine⟨u_ o_,by simp[results,Tryz.results43,go_sem,f4],by rw[HB.o];rfl,k7.o.grown (grownBy_putObj' W D (.deferred b_)) (λk e=>by cases e;exact .inr O_),λg ps e=>by rw[HB.o]at e;cases e⟩
