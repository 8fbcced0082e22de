import Derived.WalkKit
import Derived.WalkSmall
import Derived.Lib.Hide
import Derived.Lib.UnsafeStr
import Derived.Deep.Draws
import Derived.Maps.Own
import Derived.Test.YtaalbcfpacpgfaaGreatProg
import Derived.Maps.OwnOps
import Derived.Maps.OwnSet
import Derived.KernelRfl
import Derived.Maps.AppendAt
import Derived.RegionTactic
import Derived.OwnWalk
import Derived.WalkLawsBesides
import Derived.WalkSpells
import Derived.Outline
import Derived.BigQuiet
import Derived.IntWalk
import Derived.Lib.Strings
import Derived.Deep.QuietTactic
import Derived.Deep.DeepCutAuto
import Derived.Deep.RegionHeld
import Derived.StillTailTactics
import Derived.Lib.SliceRun
import Derived.RangeFuncNested
import Derived.RangeFuncBound
import Derived.RangeFuncCalls
import Derived.RangeFuncLeaves
import Derived.RangeFuncFrom
import Derived.Shelf.Abstract
import Derived.OwnWalkIn
import Derived.TacticsInMore
import Derived.LoopNIn
import Derived.LoopIn
import Derived.RangeFuncWrites
import Derived.Maps.OwnIn
import Derived.Test.YtaalbcfpacpgfaaGreatZdM1
set_option linter.all false
set_option maxHeartbeats 16000000
set_option maxRecDepth 100000
open Bool renaming false->o_,true->v_
open Go renaming Addr->Kb,Calls->H_,Program->K6,TypeId->Ki,Value->m_,World->j_,maxLen->JT,undef->q_
open Go.Ending renaming returned->k_
open Go.Fence renaming wide->JK
open Go.IntKind renaming i64->d_
open Go.Obj renaming cells->f_
open Go.Proofs.Tryz renaming prog->h_
open Go.RowKit renaming Below->n_,Hid->x_
open Go.Value renaming bool->u_,int->e_,pointer->i_,slice->a_,string->g_
open Go.World renaming cell?->E_,frozen?->JW,setCell->Kd
open List renaming length->LC
open Nat renaming reduceAdd->KR,reduceSub->Lc
open Option renaming none->b_,some->c_
open Prod renaming snd->MX
namespace Go.Typ
open Go.RowKit Go.Lib Go.Vfs Go.Par
inductive Ty where
 |mk (kind num:Int) (name:ByteArray) (args:List Ty)
def Ty.kind:Ty->Int| .mk k _ _ _=>k
def Ty.num:Ty->Int| .mk _ n _ _=>n
def Ty.name:Ty->ByteArray| .mk _ _ s _=>s
def Ty.args:Ty->List Ty| .mk _ _ _ ts=>ts
theorem Ty.eta(T:Ty):T=.mk T.kind T.num T.name T.args:=by cases T;rfl
theorem Ty.ext'{T U:Ty}(h1:T.kind=U.kind)(h2:T.num=U.num)(j:T.name=U.name)(t:T.args=U.args):T=U:=by
 cases T;cases U;simp only[Ty.kind,Ty.num,Ty.name,Ty.args]at*;subst h1 h2 j t;rfl
mutual
def Ty.parts:Ty->Nat
 | .mk _ _ _ ts=>1+aT ts
def aT:List Ty->Nat
 |[]=>0
 |a::ts=>a.parts+aT ts
end
theorem Ty.dX(T:Ty):0<T.parts:=by cases T;simp only[Ty.parts];omega
theorem tr{a:Ty}:∀{ts:List Ty},a∈ts->a.parts<=aT ts
 |b::bs,h=>by
  simp only[aT];rcases JL.1 h with rfl|h
  ·omega
  have:=tr h;omega
theorem eO:∀ts:List Ty,ts.length<=aT ts
 |[]=>by simp
 |a::ts=>by have:=eO ts;have:=a.dX;simp only[aT,Jz];omega
theorem Ty.parts_eq(T:Ty):T.parts=1+aT T.args:=by cases T;rfl
theorem Ty.om{T:Ty}{i:Nat}(h:i<T.args.length):(T.args[i]).parts<T.parts:=by
 have:=tr (JB h);rw[T.parts_eq];omega
theorem Ty.ind{p:Ty->Prop}(h:∀T,(∀i (hi:i<T.args.length),p T.args[i])->p T)(T:Ty):p T:=by
 have key:∀n,∀T:Ty,T.parts<=n->p T:=by
  intro n
  induction n with
  |zero=>intro T j;have:=T.dX;omega
  |succ n t=>intro T j;exact h T λi hi=>t _ (by have:=Ty.om hi;omega)
 exact key _ T L_
def Gl:m_->Nat->m_
 | .agg xs,j=>xs.getD j (u_ o_)
 |_,_=>u_ o_
def cn(k num:Int)(name:ByteArray)(A:Option Kb)(n c:Nat):m_:=.agg #[e_ d_ k,e_ d_ num,g_ name,a_ A n c]
inductive aG (S:Nat->Prop) (W:j_):m_->Ty->Prop
 |mk (k num:Int) (name:ByteArray) (ts:List Ty) (A:Option Kb) (c:Nat) (vs:Nat->m_) (hc:ts.length<=c) (hm:c<=JT) (hn:name.size<=9223372036854775807)
   (hcell:0<ts.length->∃b off,A=c_ ⟨b,off,b_⟩/\S b/\∀i,i<ts.length->∀j,j<4->W.cell? ⟨b,off+i*4+j,b_⟩=c_ (Gl (vs i) j))
   (hsub:∀i (h:i<ts.length),aG S W (vs i) (ts[i])):aG S W (cn k num name A ts.length c) (.mk k num name ts)
theorem Fs{k num D t:Int}{name j:ByteArray}{A G:Option Kb}{n c I J:Nat}(h:cn k num name A n c=cn D t j G I J):k=D/\num=t/\name=j/\A=G/\n=I/\c=J:=by
 injection h with h;have h0:=J7 (λa=>a[0]?) h;have h1:=J7 (λa=>a[1]?) h;have h2:=J7 (λa=>a[2]?) h;have K:=J7 (λa=>a[3]?) h;simp at h0 h1 h2 K;exact⟨h0,h1,h2,K⟩
section
variable{S S':Nat->Prop}{W W':j_}{v:m_}{T T':Ty}
theorem aG.ae(h:aG S W v T)(D:∀b,S b->S' b/\W'.heap[b]?=W.heap[b]?):aG S' W' v T:=by
 induction h with
 |mk k num name ts A c vs hc hm hn hcell hsub I=>
  refine .mk k num name ts A c vs hc hm hn (λh0=>?_) I;obtain⟨b,off,e,G,t⟩:=hcell h0;exact⟨b,off,e,(D b G).1,λi hi j hj=>by rw[D_ (w:=W) (a:=⟨b,_,b_⟩) ((D b G).2)];exact t i hi j hj⟩
theorem aG.sub(h:aG S W v T)(hS:∀b,S b->S' b):aG S' W v T:=h.ae λb j=>⟨hS b j,rfl⟩
theorem aG.fl(h:aG (·<W.heap.size) W v T)(j:n_ W W W'):aG (·<W'.heap.size) W' v T:=
 h.ae λb t=>⟨Kc t j.size,j.block b t⟩
theorem aG.form(h:aG S W v T):∃A c,v=cn T.kind T.num T.name A T.args.length c/\T.args.length<=c/\c<=JT/\T.name.size<=9223372036854775807:=by
 cases h with
 |mk k num name ts A c vs hc hm hn hcell hsub=>exact⟨A,c,rfl,hc,hm,hn⟩
theorem aG.arg{k num:Int}{name:ByteArray}{A:Option Kb}{n c:Nat}(h:aG S W (cn k num name A n c) T){i:Nat}(hi:i<T.args.length):
  ∃b off t D,A=c_ ⟨b,off,b_⟩/\S b/\aG S W (cn T.args[i].kind T.args[i].num T.args[i].name t T.args[i].args.length D) T.args[i]/\
   W.cell? ⟨b,off+i*4,b_⟩=c_ (e_ d_ T.args[i].kind)/\W.cell? ⟨b,off+i*4+1,b_⟩=c_ (e_ d_ T.args[i].num)/\
   W.cell? ⟨b,off+i*4+2,b_⟩=c_ (g_ T.args[i].name)/\W.cell? ⟨b,off+i*4+3,b_⟩=c_ (a_ t T.args[i].args.length D):=by
 generalize M:cn k num name A n c=v at h;cases h with
 |mk U I G ts t D vs hc hm hn hcell hsub=>
  obtain⟨rfl,rfl,rfl,rfl,rfl,rfl⟩:=Fs M;obtain⟨b,off,e,O,j⟩:=hcell (by simp only[Ty.args]at hi;omega);have hs:=hsub i hi;obtain⟨A2,c2,J,_⟩:=hs.form;refine⟨b,off,A2,c2,e,O,by show aG S W (cn ts[i].kind ts[i].num ts[i].name A2 ts[i].args.length c2) ts[i];rw[<-J];exact hs,?_⟩;have h0:=j i hi 0 O_;have h1:=j i hi 1 O_;have h2:=j i hi 2 O_;have K:=j i hi 3 O_;rw[J]at h0 h1 h2 K;exact⟨h0,h1,h2,K⟩
end
mutual
def cz:Ty->Int->Int
 | .mk _ _ s ts,most=>cG ts most (1+(s.size:Int)/16)
def cG:List Ty->Int->Int->Int
 |[],_,n=>n
 |a::ts,most,n=>if n<=most then cG ts most (n+cz a (most - n))else n
end
variable{most n:Int}{k:Nat}
theorem kb(T:Ty)(most:Int):cz T most=cG T.args most (1+(T.name.size:Int)/16):=by cases T;rfl
theorem uY{ts:List Ty}(h:¬n<=most):cG ts most n=n:=by
 cases ts with
 |nil=>rfl
 |cons a ts=>simp only[cG,I_ h]
theorem uX{ts:List Ty}(j:k<ts.length)(h:n<=most):cG (ts.drop k) most n=cG (ts.drop (k+1)) most (n+cz ts[k] (most - n)):=by
 rw[KA j,cG,G_ h]
theorem xN{ts:List Ty}(j:ts.length<=k):cG (ts.drop k) most n=n:=by
 rw[L6 j,cG]
inductive Fit:Ty->Prop
 |mk (k num:Int) (s:ByteArray) (ts:List Ty) (h:s.size<=9223372036854775807) (hs:∀a∈ts,Fit a):Fit (.mk k num s ts)
theorem Fit.arg{T:Ty}(h:Fit T){i:Nat}(hi:i<T.args.length):Fit T.args[i]:=by
 cases h with
 |mk k num s ts h hs=>exact hs _ (JB hi)
theorem sK{ts:List Ty}(t:∀a∈ts,∀most:Int,0<=most->1<=cz a most/\cz a most<=most+576460752303423489):
  ∀most n:Int,0<=most->1<=n->n<=most+576460752303423489->1<=cG ts most n/\cG ts most n<=most+576460752303423489:=by
 induction ts with
 |nil=>intro most n h0 h1 h2;exact⟨h1,h2⟩
 |cons a ts j=>
  intro most n h0 h1 h2;simp only[cG];split
  ·have G:=t a (by simp) (most - n) O_
   exact j (λb D=>t b (by simp[D])) most _ h0 O_ O_
  exact⟨h1,h2⟩
theorem lY{T:Ty}(h:Fit T):∀most:Int,0<=most->1<=cz T most/\cz T most<=most+576460752303423489:=by
 induction h with
 |mk k num s ts hs _ j=>
  intro most h0;rw[cz];refine sK (λa t=>j a t) most _ h0 O_ ?_;omega
theorem aG.fit{S:Nat->Prop}{W:j_}{v:m_}{T:Ty}(h:aG S W v T):Fit T:=by
 induction h with
 |mk k num name ts A c vs hc hm hn hcell hsub j=>
  refine .mk k num name ts hn λa t=>?_
  obtain⟨i,hi,rfl⟩:=J4 t;exact j i hi
end Go.Typ
namespace Go.Proofs.YtaalbcfpacpgfaaGreat
open Go.RowKit Go.Lib Go.Vfs Go.Par Go.Typ
variable{W:j_}{b:Nat}{v0 v1 v2 v3:m_}
theorem aX{t:Ki}(h:W.heap[b]?=c_ (f_ #[v0,v1,v2,v3] t (0,0))):
  (W.cell? ⟨b,0,b_⟩=c_ v0/\W.cell? ⟨b,1,b_⟩=c_ v1/\W.cell? ⟨b,2,b_⟩=c_ v2/\W.cell? ⟨b,3,b_⟩=c_ v3):=by
 simp[E_,h]
theorem aC{t:Ki}(h:W.heap[b]?=c_ (f_ #[v0,v1,v2,v3] t (0,0))):
  (W.frozen? ⟨b,0,b_⟩=o_/\W.frozen? ⟨b,1,b_⟩=o_/\W.frozen? ⟨b,2,b_⟩=o_/\W.frozen? ⟨b,3,b_⟩=o_):=by
 simp[JW,h]
theorem zi(T:Ty):∀(v:m_) (most:Int) (w:j_),aG (·<w.heap.size) w v T->0<=most->most<=1000->
  H_ h_ 62 #[v,e_ d_ most] w λe w'=>e=k_ (e_ d_ (cz T most))/\n_ w w w':=by
 induction T using Ty.ind with
 |h T ih=>
  intro v most w hT h0 h1;have IH:=Z_ ih;have O:=hT.fit;have HF:=Z_ O;clear ih O;obtain⟨A,c,rfl,hc,hm,hn⟩:=hT.form;have HT:=Z_ hT;have bd:T.args.length<=9223372036854775807:=by simp only[JT]at hm;omega
  clear hT;unfold cn;obtain⟨W1,J⟩:=N_ (w.alloc (f_ #[e_ d_ T.kind,e_ d_ T.num,g_ T.name,a_ A T.args.length c] 61));have t:W1.heap[w.heap.size]?=c_ (f_ #[e_ d_ T.kind,e_ d_ T.num,g_ T.name,a_ A T.args.length c] 61 (0,0)):=by rw[J];exact r_ _ _
  have D:x_ (n_ w w W1):=Z_ (by rw[J];exact B_.alloc L_ _);have ad:x_ (W1.heap.size=w.heap.size+1):=Z_ (by rw[J];simp);have ak:=Z_ t;clear t;have X:cG (T.args.drop 0) most (1+(T.name.size:Int)/16)=cz T most:=by rw[KU,kb]
  have av:=Z_ X;clear X;have Y:1<=1+(T.name.size:Int)/16/\1+(T.name.size:Int)/16<=most+576460752303423489:=by omega
  have a1:=Z_ Y;clear Y;go_enter Tryz.func62,Tryz.ntmps62;go_wp2;rw[<-J]
  go_loopw [5,6] (λnv iv W=>∃(k:Nat) (n:Int),k<=T.args.length/\nv=e_ d_ n/\iv=e_ d_ k/\x_ (cG (T.args.drop k) most n=cz T most)/\(1<=n/\n<=most+576460752303423489)/\x_ (n_ W1 W1 W)) (λnv iv _=>T.args.length - (intOf iv).toNat)
  case atStart=>exact⟨0,_,by omega,rfl,rfl,av,a1.o,Z_ B_⟩
  obtain⟨k,n,hk,rfl,rfl,HW,bf,V⟩:=hrel;have t:wr.heap[w.heap.size]?=c_ (f_ #[e_ d_ T.kind,e_ d_ T.num,g_ T.name,a_ A T.args.length c] 61 (0,0)):=by
   rw[V.o.block _ (by have:=ad.o;omega)];exact ak.o
  obtain⟨y0,y1,y2,y3⟩:=aX t;by_cases K:k<T.args.length
  ·by_cases Z:n<=most
   ·obtain⟨b,off,A',c',rfl,hb,ht,z0,z1,z2,z3⟩:=HT.o.arg K
    have G:n_ w w wr:=D.o.trans (V.o.mono D.o.size);have x0:=(G.cell (p:=⟨b,off+k*4,b_⟩) hb).trans z0;have x1:=(G.cell (p:=⟨b,off+k*4+1,b_⟩) hb).trans z1;have x2:=(G.cell (p:=⟨b,off+k*4+2,b_⟩) hb).trans z2;have x3:=(G.cell (p:=⟨b,off+k*4+3,b_⟩) hb).trans z3;have M:=IH.o k K _ (most - n) wr (ht.ae λg hg=>⟨Kc hg G.size,G.block g hg⟩) O_ O_;have a2:=lY (HF.o.arg K) (most - n) O_;have HS:=Z_ (uX (ts:=T.args) K Z);clear z0 z1 z2 z3 ht t;generalize T.args[k]=U at*;obtain⟨q,hq⟩:=N_ (cz U (most - n));rw[<-hq]at a2 M HS;unfold cn at M;have ba:=Z_ M;clear M hq;go_wp2_with (go_at_call 62;refine ba.o.mono ?_;rintro e w2 ⟨rfl,bb⟩);go_roundw
    case rel=>exact⟨k+1,n+q,by omega,by go_num,by go_num,Z_ (HS.o.symm.trans HW.o),⟨by omega,by omega⟩,Z_ (V.o.trans (bb.mono V.o.size))⟩
    simp[intOf];omega
   have j:=HW.o;rw[uY Z]at j;have I:=Z_ j;clear j;go_wp2;go_ret;exact⟨by rw[<-I.o];rfl,D.o.trans (V.o.mono D.o.size)⟩
  have j:=HW.o;rw[xN O_]at j;have I:=Z_ j;clear j;go_wp2;go_ret;exact⟨by rw[<-I.o];rfl,D.o.trans (V.o.mono D.o.size)⟩
end Go.Proofs.YtaalbcfpacpgfaaGreat
namespace Go.Typ
open Go.RowKit Go.Lib Go.Vfs Go.Par
structure oJ(P:K6)(t e:Ki)(k:Nat):Prop where
 CK:P.underlying t=c_ (.slice e)
 info:∃i z bytes,P.info? e=c_ i/\i.zero=c_ z/\i.size=k/\i.bytes=bytes/\bytes<=128/\z.cells.size=k
 pos:0<k
theorem mS{P:K6}{t e:Ki}{k b:Nat}{z:m_}(j:P.underlying t=c_ (.slice e))(h:(P.info? e).map (λi=>(i.zero,i.size,i.bytes))=c_ (c_ z,k,b))(D:b<=128)(h1:z.cells.size=k)(G:0<k):oJ P t e k:=by
 obtain⟨i,hi,h0,h2,I⟩:=info_parts h;exact⟨j,⟨i,z,b,hi,h0,h2,I,D,h1⟩,G⟩
def cX:m_->List m_
 | .agg xs=>xs.toList
 |v=>[v]
section
variable{P:K6}(w:j_)
theorem xg(base:Nat)(t ty e:Ki)(k:Nat)(E:oJ P t e k)(v:m_)(n:Nat)(xs:List m_)(I:w.ownsRow base e k v n xs)
  (J:Kb) (m c:Nat) (news:List m_) (Y:news.length=m*k) (D:∀j u,news[j]?=c_ u->w.cell? (J.add j)=c_ u) (h1:∀u∈news,u.oneCell'=v_)
  (K:n+m<=1099511627776) (G:base<=w):
  ∃v' w',(Builtin.append_ #[t,t] ty #[v,a_ (c_ J) m c]).run P w=.ok v' w'/\w'.ownsRow base e k v' (n+m) (xs++news)/\w.grownBy w' v.ownBlock/\
   (v'.ownBlock=v.ownBlock\/v'.ownBlock=c_ w.heap.size):=by
 obtain⟨i,z,bytes,hi,Z,M,O,U,V⟩:=E.info;have X:(n+m)*bytes<=140737488355328:=Kj (Nat.mul_le_mul K U) (by decide);obtain⟨v',w',hr,h2,h3,_,h5⟩:=MJ (P:=P) w base t ty e i z k bytes E.CK hi Z M O V E.pos v n xs I J m c news Y D h1 (by simp only[JT];omega) X G;exact⟨v',w',hr,h2,h3,h5⟩
theorem dc{ops:Array Oper}{rest:List Oper}{o:Oper}{a:Act}{Q:Exit->Act->j_->Prop}(K:o.guard=b_)(s x:Operand)(t:Ki)
  (U:o.op=.call {callee:=.builtin .append,args:=#[s,x],argTypes:=#[t,t]})
  (base:Nat) (e:Ki) (k:Nat) (E:oJ P t e k) (v:m_) (n:Nat) (xs:List m_) (hs:a.eval s=v) (I:w.ownsRow base e k v n xs)
  (M:Kb) (m c:Nat) (news:List m_) (hx:a.eval x=a_ (c_ M) m c) (V:news.length=m*k) (D:∀j u,news[j]?=c_ u->w.cell? (M.add j)=c_ u) (h1:∀u∈news,u.oneCell'=v_)
  (O:n+m<=1099511627776) (G:base<=w)
  (h:∀v' w',w'.ownsRow base e k v' (n+m) (xs++news)->w.grownBy w' v.ownBlock->(v'.ownBlock=v.ownBlock\/v'.ownBlock=c_ w.heap.size)->wpList P ops Q rest (a.put o.dst v') w'):wpList P ops Q (o::rest) a w:=
 wpList_plain K λ_ X=>by
  obtain⟨v',w',J,h2,Y,Z⟩:=xg (P:=P) w base t o.type e k E v n xs I M m c news V D h1 O G;unfold Oper.wp execOp;simp only[U,resolve,invoke,builtin,MM,MC,LS,L9,Ks,Lf,hs,hx,J];exact X _ _ (h v' w' h2 Y Z)
end
variable{w:j_}{b:Nat}{v0 v1 v2 v3:m_}
theorem bF(w:j_)(cs:List m_)(t:Ki):∀j u,cs[j]?=c_ u->(w.alloc (f_ cs.toArray t)).cell? ((⟨w,0,b_⟩:Kb).add j)=c_ u:=by
 intro j u h;rw[cS,Lp,World.cell?_alloc_new];simpa using h
theorem ao{o:Obj}(h:w.heap[b]?=c_ o):b<w:=(Li.1 h).1
theorem ai{xs:Array m_}{t:Ki}(h:w.heap[b]?=c_ (f_ xs t (0,0)))(i:Nat)(x:m_):(w.setCell ⟨b,i,b_⟩ x).heap[b]?=c_ (f_ (xs.setIfInBounds i x) t (0,0)):=by
 have j:=ao h;have D:w.heap[b]=f_ xs t (0,0):=by simpa[Kz j]using h
 show(w.heap.modify b _)[b]?=_;rw[Kz (by simpa using j),LF,D];rfl
theorem Fg{u0 u1 u2 u3:m_}{t:Ki}(h:w.heap[b]?=c_ (f_ #[u0,u1,u2,u3] t (0,0))):
  ((((w.setCell ⟨b,0,b_⟩ v0).setCell ⟨b,1,b_⟩ v1).setCell ⟨b,2,b_⟩ v2).setCell ⟨b,3,b_⟩ v3).heap[b]?=c_ (f_ #[v0,v1,v2,v3] t (0,0)):=by
 have:=ai (ai (ai (ai h 0 v0) 1 v1) 2 v2) 3 v3;simpa using this
theorem Aa{F:Nat->Prop}{j:j_}(h:Kept F j w)(hp:F b\/j.heap.size<=b):
  Kept F j ((((w.setCell ⟨b,0,b_⟩ v0).setCell ⟨b,1,b_⟩ v1).setCell ⟨b,2,b_⟩ v2).setCell ⟨b,3,b_⟩ v3):=
 (((h.setCell (p:=⟨b,0,b_⟩) hp v0).setCell (p:=⟨b,1,b_⟩) hp v1).setCell (p:=⟨b,2,b_⟩) hp v2).setCell (p:=⟨b,3,b_⟩) hp v3
structure az{α:Type}(e k:Nat)(R:(Nat->Prop)->j_->m_->α->Prop)(L B:Nat)(w:j_)(xs:List α)(v:m_)(us:List m_):Prop where
 len:us.length=xs.length
 own:w.ownsRow B e k v xs.length (us.flatMap cX)
 size:∀u∈us,(cX u).length=k
 each:∀i (h:i<xs.length),R (λg=>L<=g/\g<w.heap.size/\v.ownBlock≠c_ g) w (us.getD i (u_ o_)) xs[i]
section
variable{α:Type}{e k:Nat}{R:(Nat->Prop)->j_->m_->α->Prop}{L B:Nat}{w w' w2 w3:j_}{xs:List α}{v v':m_}{us:List m_}
theorem az.nil(w:j_):az e k R L B w [] (a_ b_ 0 0) []:=⟨rfl,Mf w B e k,by simp,λi h=>by simp at h⟩
theorem az.made(w:j_)(j:B<=w):az e k R L B (w.alloc (f_ #[] e)) [] (a_ (c_ ⟨w,0,b_⟩) 0 0) []:=
 ⟨rfl,World.ownsRow_made w #[] 0 j (by simp) (by simp),by simp,λi h=>by simp at h⟩
theorem az.ae(D:∀{S S':Nat->Prop} {w w':j_} {v:m_} {x:α},R S w v x->(∀b,S b->S' b/\w'.heap[b]?=w.heap[b]?)->R S' w' v x)
  (h:az e k R L B w xs v us) (t:∀g,g<w.heap.size->w'.heap[g]?=w.heap[g]?) (G:w.heap.size<=w'.heap.size):az e k R L B w' xs v us:=
 ⟨h.len,aO h.own λg e=>t g (h.own.lt g e).2,h.size,λi hi=>D (h.each i hi) λb j=>⟨⟨j.1,by omega,j.2.2⟩,t b j.2.1⟩⟩
theorem az.below(t:∀{S S':Nat->Prop} {w w':j_} {v:m_} {x:α},R S w v x->(∀b,S b->S' b/\w'.heap[b]?=w.heap[b]?)->R S' w' v x)
  (h:az e k R L B w xs v us) (j:n_ w w w'):az e k R L B w' xs v us:=h.ae t j.block j.size
theorem az.next(O:∀{S S':Nat->Prop} {w w':j_} {v:m_} {x:α},R S w v x->(∀b,S b->S' b/\w'.heap[b]?=w.heap[b]?)->R S' w' v x)
  (h:az e k R L B w xs v us) {u:m_} {x:α} {S:Nat->Prop} (hu:R S w u x) (hS:∀g,S g->L<=g/\g<w.heap.size/\v.ownBlock≠c_ g) (J:(cX u).length=k) (o:Obj)
  (G:w3.ownsRow B e k v' (xs.length+1) (us.flatMap cX++cX u)) (U:(w.alloc o).grownBy w3 v.ownBlock) (K:v'.ownBlock=v.ownBlock\/v'.ownBlock=c_ (w.alloc o).heap.size):
  az e k R L B w3 (xs++[x]) v' (us++[u]):=by
 have V:(w.alloc o).heap.size=w.heap.size+1:=by simp
 have X:=U.size;have key:∀g,g<w.heap.size->v.ownBlock≠c_ g->w3.heap[g]?=w.heap[g]?:=λg h1 h2=>by
  rw[U.block g O_ (λe=>h2 e.symm),z_ _ _ _ h1]
 have ne':∀g,g<w.heap.size->v.ownBlock≠c_ g->v'.ownBlock≠c_ g:=λg h1 h2=>by
  rcases K with e|e
  ·rw[e];exact h2
  rw[e];intro D;injection D with D;omega
 refine⟨by simp[h.len],by rw[p_,List.flatMap_append];simpa using G,λy I=>?_,λi hi=>?_⟩
 ·rcases KI.1 I with I|I
  ·exact h.size y I
  rw[KV.1 I];exact J
 rw[p_,Kt]at hi;by_cases j:i<xs.length
 ·have M:(us++[u]).getD i (u_ o_)=us.getD i (u_ o_):=by simp[s_,Kx,h.len,j]
  have D:(xs++[x])[i]'(by simp;omega)=xs[i]:=by rw[List.getElem_append_left j]
  rw[M,D];exact O (h.each i j) λg t=>⟨⟨t.1,by omega,ne' g t.2.1 t.2.2⟩,key g t.2.1 t.2.2⟩
 have:i=xs.length:=by omega
 subst this;have M:(us++[u]).getD xs.length (u_ o_)=u:=by rw[<-h.len];simp[s_]
 have D:(xs++[x])[xs.length]'(by simp)=x:=by simp
 rw[M,D];refine O hu λg t=>?_
 have:=hS g t;exact⟨⟨this.1,by omega,ne' g this.2.1 this.2.2⟩,key g this.2.1 this.2.2⟩
theorem az.form(h:az e k R L B w xs v us):∃A c,v=a_ A xs.length c/\xs.length<=c/\c<=JT:=by
 rcases h.own.2 with⟨e,h0⟩|⟨g,cap,cur,e,_,_,hn,hm,_⟩
 ·exact⟨b_,0,by rw[e,h0],by omega,by simp[JT]⟩
 exact⟨_,cap,e,hn,hm⟩
theorem az.lt(h:az e k R L B w xs v us)(g:Nat)(j:v.ownBlock=c_ g):B<=g/\g<w.heap.size:=h.own.lt g j
theorem Dh{us:List m_}{k:Nat}(hs:∀u∈us,(cX u).length=k):∀i j,i<us.length->j<k->(us.flatMap cX)[i*k+j]?=(cX (us.getD i (u_ o_)))[j]?:=by
 induction us with
 |nil=>intro i j h;simp at h
 |cons u us t=>
  intro i j hi hj;have hu:=hs u (by simp);rw[Me];cases i with
  |zero=>rw[Nat.zero_mul,Lp,List.getElem?_append_left O_];simp
  |succ i=>
   rw[List.getElem?_append_right (by rw[hu,Nat.add_mul];omega),hu,show(i+1)*k+j - k=i*k+j from by rw[Nat.add_mul];omega];rw[t (λy D=>hs y (by simp[D])) i j (by simpa using hi) hj];simp
theorem az.cells(h:az e k R L B w xs v us)(hp:0<xs.length):∃g c,v=a_ (c_ ⟨g,0,b_⟩) xs.length c/\B<=g/\g<w.heap.size/\
  ∀i,i<xs.length->∀j,j<k->w.cell? ⟨g,0+i*k+j,b_⟩=(cX (us.getD i (u_ o_)))[j]?:=by
 rcases h.own.2 with⟨e,h0⟩|⟨g,cap,cur,e,K,G,hn,hm,hc,I⟩
 ·omega
 have t:=h.lt g (by rw[e];rfl);refine⟨g,cap,e,t.1,t.2,λi hi j hj=>?_⟩;have J:=Dh h.size i j (by rw[h.len];exact hi) hj;have D:i*k+j<xs.length*k:=by
  have h2:(i+1)*k<=xs.length*k:=Nat.mul_le_mul_right k O_;rw[Nat.add_mul]at h2;omega
 rw[<-J,<-I,Mb];rw[G_ D];simp[E_,G]
end
theorem az.ty{e L B:Nat}{w:j_}{ts:List Ty}{v:m_}{us:List m_}(h:az e 4 aG L B w ts v us)(k num:Int)(name:ByteArray)(hn:name.size<=9223372036854775807):
  ∃A c,v=a_ A ts.length c/\aG (λg=>(L<=g\/B<=g)/\g<w.heap.size) w (cn k num name A ts.length c) (.mk k num name ts):=by
 obtain⟨A,c,rfl,hc,hm⟩:=h.form;refine⟨A,c,rfl,.mk k num name ts A c (λi=>us.getD i (u_ o_)) hc hm hn (λh0=>?_) (λi hi=>(h.each i hi).sub λg G=>⟨.inl G.1,G.2.1⟩)⟩;obtain⟨g,I,e,J,t,D⟩:=h.cells h0;injection e with K _ _;refine⟨g,0,K,⟨.inr J,t⟩,λi hi j hj=>?_⟩;rw[D i hi j hj];obtain⟨M,I,e,_⟩:=(h.each i hi).form;rw[e];have:j=0\/j=1\/j=2\/j=3:=by omega
 rcases this with rfl|rfl|rfl|rfl<;>rfl
end Go.Typ
namespace Go.Proofs.YtaalbcfpacpgfaaGreat
open Go.RowKit Go.Lib Go.Vfs Go.Par Go.Typ
theorem Iv:oJ h_ 59 61 4:=mS (b:=56) (z:=.agg #[e_ d_ 0,e_ d_ 0,g_ ⟨#[]⟩,a_ b_ 0 0]) Tryz.underlying59 K_ (by decide) rfl (by decide)
theorem yE(k num:Int)(s:ByteArray)(A:Option Kb)(n c:Nat):∀u∈[e_ d_ k,e_ d_ num,g_ s,a_ A n c],u.oneCell'=true:=by
 intro u hu;simp at hu;rcases hu with rfl|rfl|rfl|rfl<;>rfl
theorem bK{B:Nat}{j w w':j_}{v:m_}(t:n_ B j w)(D:B<=w)(o:Obj)(G:(w.alloc o).grownBy w' v.ownBlock)(I:∀k,v.ownBlock=c_ k->B<=k):n_ B j w':=
 (t.alloc D o).grown G (by simp;omega) I
structure ky(w W1:j_)(b:Nat)(T:Ty)(A:Option Kb)(c:Nat):Prop where
 box:W1.heap[b]?=c_ (f_ #[e_ d_ T.kind,e_ d_ T.num,g_ T.name,a_ A T.args.length c] 61 (0,0))
 lt:b<W1.heap.size
 le:w.heap.size<=b
 below:n_ w.heap.size w W1
 ty:aG (·<w.heap.size) w (cn T.kind T.num T.name A T.args.length c) T
section
variable{w W1 W W2:j_}{b c:Nat}{T:Ty}{A:Option Kb}
theorem ky.Gp(h:ky w W1 b T A c)(j:n_ W1 W1 W):W.heap[b]?=c_ (f_ #[e_ d_ T.kind,e_ d_ T.num,g_ T.name,a_ A T.args.length c] 61 (0,0)):=
 (j.block b h.lt).trans h.box
theorem ky.all(h:ky w W1 b T A c)(j:n_ W1 W1 W):n_ w w W:=h.below.trans (j.mono h.below.size)
theorem ky.Iu(h:ky w W1 b T A c)(j:n_ W1 W1 W):aG (·<W.heap.size) W (cn T.kind T.num T.name A T.args.length c) T:=h.ty.fl (h.all j)
end
end Go.Proofs.YtaalbcfpacpgfaaGreat
namespace Go.Typ
open Classical in
noncomputable def same (T U:Ty):Bool:=decide (T=U)
theorem lF{T U:Ty}(h:T=U):same T U=true:=by simp[same,h]
theorem ga{T U:Ty}(h:¬T=U):same T U=false:=by simp[same,h]
theorem xw{T U:Ty}:same T U=v_↔T=U:=by simp[same]
theorem Ai{W:j_}{b o:Nat}{v:m_}(h:W.cell? ⟨b,o,b_⟩=c_ v):b<W:=JY W ⟨b,o,b_⟩ h
theorem vv(x y:ByteArray):(x.toList==y.toList)=v_↔x=y:=by
 rw[beq_iff_eq,KY,KY];exact⟨λh=>L7 (Ll.mp h),λh=>by rw[h]⟩
theorem lj{x y:ByteArray}(h:¬x=y):(x.toList==y.toList)=false:=by
 cases j:x.toList==y.toList
 ·rfl
 exact absurd ((vv x y).1 j) h
end Go.Typ
namespace Go.Proofs.YtaalbcfpacpgfaaGreat
open Go.RowKit Go.Lib Go.Vfs Go.Par Go.Typ
theorem nD(T:Ty):∀(U:Ty) (u v:m_) (w:j_),aG (·<w.heap.size) w u T->aG (·<w.heap.size) w v U->
  H_ h_ 103 #[u,v] w λe w'=>e=k_ (u_ (same T U))/\n_ w w w':=by
 induction T using Ty.ind with
 |h T ih=>
  intro U u v w hT hU;have IH:=Z_ ih;clear ih;obtain⟨A,c,rfl,hc,hm,hn⟩:=hT.form;obtain⟨A',c',rfl,bp,a1,bt⟩:=hU.form;obtain⟨W1,t⟩:=N_ ((w.alloc (f_ #[e_ d_ T.kind,e_ d_ T.num,g_ T.name,a_ A T.args.length c] 61)).alloc (f_ #[e_ d_ U.kind,e_ d_ U.num,g_ U.name,a_ A' U.args.length c'] 61));have K:n_ w w W1:=by rw[t];exact(B_.alloc L_ _).alloc (by simp) _
  have hL:ky w W1 w T A c:=by
   refine⟨?_,by rw[t];simp;omega,Kh _,K,hT⟩;rw[t,z_ _ _ _ (by simp)];exact r_ _ _
  have hM:ky w W1 (w+1) U A' c':=by
   refine⟨?_,by rw[t];simp,by omega,K,hU⟩;rw[t];have:=r_ (w.alloc (f_ #[e_ d_ T.kind,e_ d_ T.num,g_ T.name,a_ A T.args.length c] 61)) (f_ #[e_ d_ U.kind,e_ d_ U.num,g_ U.name,a_ A' U.args.length c'] 61);simpa using this
  have b0:T.args.length<=9223372036854775807:=by simp only[JT]at hm;omega
  have bR:U.args.length<=9223372036854775807:=by simp only[JT]at a1;omega
  have HL:=Z_ hL;have HM:=Z_ hM;have M:=Z_ K;clear hT hU hL hM K hc hm hn bp a1 bt;unfold cn;by_cases D:T.kind=U.kind
  ·by_cases I:T.num=U.num
   ·by_cases e3:T.name=U.name
    ·by_cases e4:T.args.length=U.args.length
     ·have h1:(T.kind !=U.kind)=false:=by simp[D]
      have h2:(T.num !=U.num)=false:=by simp[I]
      have h3:(T.name.toList==U.name.toList)=true:=(vv _ _).2 e3;have h4:((T.args.length:Int) !=(U.args.length:Int))=false:=by simp[e4]
      have E1:=Z_ D;have E2:=Z_ I;have E3:=Z_ e3;have E4:=Z_ e4;clear D I e3 e4;go_enter Tryz.func103,Tryz.ntmps103;go_wp2;rw[<-t]
      go_loopw [5] (λiv W=>∃(k:Nat),k<=T.args.length/\iv=e_ d_ k/\x_ (T.args.take k=U.args.take k)/\x_ (n_ W1 W1 W)) (λiv _=>T.args.length - (intOf iv).toNat)
      case atStart=>exact⟨0,by omega,rfl,Z_ (by simp),Z_ B_⟩
      obtain⟨k,hk,rfl,HA,O⟩:=hrel;clear h1 h2 h3 h4;obtain⟨y0,y1,y2,y3⟩:=aX (HL.o.Gp O.o);by_cases ak:k<T.args.length
      ·have ad:k<U.args.length:=by have:=E4.o;omega
       obtain⟨b,off,A2,c2,rfl,hb,ht,x0,x1,x2,x3⟩:=(HL.o.Iu O.o).arg ak;obtain⟨J,j,a2,ba,rfl,V,bb,bd,bf,bg,bj⟩:=(HM.o.Iu O.o).arg ad;obtain⟨z0,z1,z2,z3⟩:=aX (HM.o.Gp O.o);have av:∀W2,n_ wr wr W2->_:=λW2 bk=>IH.o k ak U.args[k] _ _ W2 (ht.fl bk) (bb.fl bk)
       have bx:x_ (¬T.args[k]=U.args[k]->same T U=o_):=Z_ λh=>ga λe=>h (by subst e;rfl)
       have bB:x_ (T.args[k]=U.args[k]->T.args.take (k+1)=U.args.take (k+1)):=Z_ λh=>by rw[y_ ak,y_ ad,HA.o,h]
       clear ht bb y0 y1 y2 z0 z1 z2;generalize T.args[k]=X at*;generalize U.args[k]=Y at*;unfold cn at av;have bm:=Z_ av;have Z:x_ (n_ wr wr wr.drew):=Z_ B_.drew;clear av;obtain⟨q,hq⟩:=N_ (same X Y);rw[<-hq]at bm;have bn:x_ (∀W2,n_ wr wr W2->W2.cell? ⟨w,3,b_⟩=c_ (a_ (c_ ⟨b,off,b_⟩) T.args.length c)/\W2.cell? ⟨w+1,3,b_⟩=c_ (a_ (c_ ⟨J,j,b_⟩) U.args.length c')/\
         W2.cell? ⟨b,off+k*4,b_⟩=c_ (e_ d_ X.kind)/\W2.cell? ⟨b,off+k*4+1,b_⟩=c_ (e_ d_ X.num)/\W2.cell? ⟨b,off+k*4+2,b_⟩=c_ (g_ X.name)/\W2.cell? ⟨b,off+k*4+3,b_⟩=c_ (a_ A2 X.args.length c2)/\
         W2.cell? ⟨J,j+k*4,b_⟩=c_ (e_ d_ Y.kind)/\W2.cell? ⟨J,j+k*4+1,b_⟩=c_ (e_ d_ Y.num)/\W2.cell? ⟨J,j+k*4+2,b_⟩=c_ (g_ Y.name)/\W2.cell? ⟨J,j+k*4+3,b_⟩=c_ (a_ a2 Y.args.length ba)):=
        Z_ λW2 h=>⟨(h.cell (p:=⟨_,_,b_⟩) (Ai y3)).trans y3,(h.cell (p:=⟨_,_,b_⟩) (Ai z3)).trans z3,(h.cell (p:=⟨_,_,b_⟩) hb).trans x0,(h.cell (p:=⟨_,_,b_⟩) hb).trans x1,(h.cell (p:=⟨_,_,b_⟩) hb).trans x2,(h.cell (p:=⟨_,_,b_⟩) hb).trans x3,
         (h.cell (p:=⟨_,_,b_⟩) V).trans bd,(h.cell (p:=⟨_,_,b_⟩) V).trans bf,(h.cell (p:=⟨_,_,b_⟩) V).trans bg,(h.cell (p:=⟨_,_,b_⟩) V).trans bj⟩
       have HQ:=Z_ hq;clear hq x0 x1 x2 x3 bd bf bg bj;go_wp2_with fail
       go_region_held (λW2=>W2.cell? ⟨w,3,b_⟩=c_ (a_ (c_ ⟨b,off,b_⟩) T.args.length c)/\W2.cell? ⟨w+1,3,b_⟩=c_ (a_ (c_ ⟨J,j,b_⟩) U.args.length c')/\
         W2.cell? ⟨b,off+k*4,b_⟩=c_ (e_ d_ X.kind)/\W2.cell? ⟨b,off+k*4+1,b_⟩=c_ (e_ d_ X.num)/\W2.cell? ⟨b,off+k*4+2,b_⟩=c_ (g_ X.name)/\W2.cell? ⟨b,off+k*4+3,b_⟩=c_ (a_ A2 X.args.length c2)/\
         W2.cell? ⟨J,j+k*4,b_⟩=c_ (e_ d_ Y.kind)/\W2.cell? ⟨J,j+k*4+1,b_⟩=c_ (e_ d_ Y.num)/\W2.cell? ⟨J,j+k*4+2,b_⟩=c_ (g_ Y.name)/\W2.cell? ⟨J,j+k*4+3,b_⟩=c_ (a_ a2 Y.args.length ba))
         (first|exact bn.o _ Z.o|exact bn.o _ (by assumption)) ((go_at_call 103;refine(bm.o _ Z.o).mono ?_;rintro e w2 ⟨rfl,bN⟩;have bo:=Z.o.trans (bN.mono Z.o.size)))
       cases q
       ·have G:x_ (same T U=o_):=Z_ (bx.o λe=>by have h:=HQ.o;rw[lF e]at h;cases h)
        go_wp2;go_ret;exact⟨by rw[G.o];rfl,HL.o.all (O.o.trans (bo.mono O.o.size))⟩
       have HX:=xw.1 HQ.o.symm;go_wp2;go_roundw
       case rel=>exact⟨k+1,by omega,by go_num,Z_ (bB.o HX),Z_ (O.o.trans (bo.mono O.o.size))⟩
       simp[intOf];omega
      have bO:k=T.args.length:=by omega
      have G:x_ (same T U=v_):=Z_ (lF (Ty.ext' E1.o E2.o E3.o (by
       have h:=HA.o;rw[bO,JO]at h;rw[h,E4.o,JO])))
      go_wp2;go_ret;exact⟨by rw[G.o];rfl,HL.o.all O.o⟩
     have G:x_ (same T U=o_):=Z_ (ga λe=>e4 (by rw[e]));have h1:(T.kind !=U.kind)=false:=by simp[D]
     have h2:(T.num !=U.num)=false:=by simp[I]
     have h3:(T.name.toList==U.name.toList)=true:=(vv _ _).2 e3;have h4:((T.args.length:Int) !=(U.args.length:Int))=true:=by simp;omega
     clear D I e3 e4;go_enter Tryz.func103,Tryz.ntmps103;go_wp2;go_ret;rw[G.o,<-t];exact⟨rfl,M.o⟩
    have G:x_ (same T U=o_):=Z_ (ga λe=>e3 (by rw[e]));have h1:(T.kind !=U.kind)=false:=by simp[D]
    have h2:(T.num !=U.num)=false:=by simp[I]
    have h3:(T.name.toList==U.name.toList)=false:=lj e3;clear D I e3;go_enter Tryz.func103,Tryz.ntmps103;go_wp2;go_ret;rw[G.o,<-t];exact⟨rfl,M.o⟩
   have G:x_ (same T U=o_):=Z_ (ga λe=>I (by rw[e]));have h1:(T.kind !=U.kind)=false:=by simp[D]
   have h2:(T.num !=U.num)=true:=by simp[I]
   clear D I;go_enter Tryz.func103,Tryz.ntmps103;go_wp2;go_ret;rw[G.o,<-t];exact⟨rfl,M.o⟩
  have G:x_ (same T U=o_):=Z_ (ga λe=>D (by rw[e]));have h1:(T.kind !=U.kind)=true:=by simp[D]
  clear D;go_enter Tryz.func103,Tryz.ntmps103;go_wp2;go_ret;rw[G.o,<-t];exact⟨rfl,M.o⟩
end Go.Proofs.YtaalbcfpacpgfaaGreat
namespace Go.Typ
def bU(n:Nat):Bool:=decide (97<=n/\n<=122)
def cR(n:Nat):Bool:=decide (65<=n/\n<=90)
def ea(n:Nat):Bool:=decide (48<=n/\n<=57)
def kO(t:Bool)(n:Nat):Bool:=bU n||cR n||ea n||decide (n=95)||(t&&decide (n=39))
def ey:List (List UInt8):=[[95],[108,101,116],[114,101,99],[105,110],[102,117,110],[105,102],[116,104,101,110],[101,108,115,101],[109,97,116,99,104],[119,105,116,104],[116,121,112,101],[111,102],[116,114,117,101],[102,97,108,115,101]]
end Go.Typ
namespace Go.Proofs.YtaalbcfpacpgfaaGreat
open Go.RowKit Go.Lib Go.Vfs Go.Par Go.Typ
theorem kM(x:Nat)(w:j_):H_ h_ 172 #[e_ .u8 x] w λe w'=>e=k_ (u_ (bU x))/\w'=w:=by
 by_cases h1:(97:Int)<=x
 ·by_cases h2:(x:Int)<=122
  ·have h:bU x=true:=JR O_
   rw[h];clear h;go_enter Tryz.func172,Tryz.ntmps172;go_wp2;go_ret;exact⟨rfl,rfl⟩
  have h:bU x=false:=JJ O_;rw[h];clear h;go_enter Tryz.func172,Tryz.ntmps172;go_wp2;go_ret;exact⟨rfl,rfl⟩
 have h:bU x=false:=JJ O_;rw[h];clear h;go_enter Tryz.func172,Tryz.ntmps172;go_wp2;go_ret;exact⟨rfl,rfl⟩
theorem o7(x:Nat)(w:j_):H_ h_ 175 #[e_ .u8 x] w λe w'=>e=k_ (u_ (cR x))/\w'=w:=by
 by_cases h1:(65:Int)<=x
 ·by_cases h2:(x:Int)<=90
  ·have h:cR x=true:=JR O_
   rw[h];clear h;go_enter Tryz.func175,Tryz.ntmps175;go_wp2;go_ret;exact⟨rfl,rfl⟩
  have h:cR x=false:=JJ O_;rw[h];clear h;go_enter Tryz.func175,Tryz.ntmps175;go_wp2;go_ret;exact⟨rfl,rfl⟩
 have h:cR x=false:=JJ O_;rw[h];clear h;go_enter Tryz.func175,Tryz.ntmps175;go_wp2;go_ret;exact⟨rfl,rfl⟩
theorem kL(x:Nat)(w:j_):H_ h_ 176 #[e_ .u8 x] w λe w'=>e=k_ (u_ (ea x))/\w'=w:=by
 by_cases h1:(48:Int)<=x
 ·by_cases h2:(x:Int)<=57
  ·have h:ea x=true:=JR O_
   rw[h];clear h;go_enter Tryz.func176,Tryz.ntmps176;go_wp2;go_ret;exact⟨rfl,rfl⟩
  have h:ea x=false:=JJ O_;rw[h];clear h;go_enter Tryz.func176,Tryz.ntmps176;go_wp2;go_ret;exact⟨rfl,rfl⟩
 have h:ea x=false:=JJ O_;rw[h];clear h;go_enter Tryz.func176,Tryz.ntmps176;go_wp2;go_ret;exact⟨rfl,rfl⟩
theorem iL(s:ByteArray):s.data.toList=s.toList:=(KY s).symm
theorem nL(s:ByteArray)(w:j_):H_ h_ 174 #[g_ s] w λe w'=>∃z,e=k_ (e_ d_ z)/\(z=1↔s.data.toList∉ey)/\w'=w:=by
 rw[iL];go_enter Tryz.func174,Tryz.ntmps174;go_wp2;all_goals go_ret
 all_goals refine⟨_,rfl,?_,rfl⟩
 all_goals simp_all [ey]
def bh(s:ByteArray)(j:Nat):Nat:=(s.data.toList.getD j 0).toNat
theorem ij(s:ByteArray)(k:Nat)(h:k<s.size):s[k].toNat=bh s k:=by
 have:s[k]=s.data.toList.getD k 0:=by
  have j:k<s.data.size:=h;rw[s_,w_ (by simpa using j)];rfl
 rw[this];rfl
theorem AI(s:ByteArray)(t:Bool)(a:Nat)(w:j_)(ha:a<=s.size)(hs:s.size<=9223372036854775807):
    H_ h_ 173 #[g_ s, e_ d_ a, u_ t] w λe w'=>∃n:Nat,e= k_ (e_ d_ n)/\a+n<=s.size/\x_ ((∀j,a<=j->j<a+n->kO t (bh s j)=v_)/\(a+n<s.size->kO t (bh s (a+n))=o_))/\w'=w:=by
  go_enter Tryz.func173,Tryz.ntmps173;go_wp2
  go_loopw [7] (λJ W=>∃(k:Nat),a<=k/\k<=s.size/\J= e_ d_ k/\x_ (∀j,a<=j->j<k->kO t (bh s j)=v_)/\W=w) (λJ _=>s.size - (intOf J).toNat)
  case atStart=>exact⟨a,by omega,by omega,rfl,Z_ (λj h1 h2=>by omega),rfl⟩
  obtain⟨k,ad,hk,rfl,K,rfl⟩:=hrel;by_cases M:k<s.size
  · have HX:=Z_ (ij s k M)
    obtain⟨x,hx⟩:∃x,x=s[k].toNat:=⟨_,rfl⟩;have I:x_ (bh s k=x):=Z_ (by rw[hx,HX.o]);clear HX;have HY:x_ (kO t x=v_->∀j,a<=j->j<k+1->kO t (bh s j)=v_):=Z_ λh j h1 h2=>by
      by_cases hj:j<k
      · exact K.o j h1 hj
      have:j=k:=by omega
      rw[this,I.o];exact h
    have HS:=Z_ (kM x wr);have HG:=Z_ (o7 x wr);have HD:=Z_ (kL x wr);have O:x_ (kO t x=(bU x||cR x||ea x||decide (x=95)||(t&&decide (x=39)))):=Z_ rfl;have g4:((x:Int) !=95)= !decide (x=95):=by
      by_cases h:x=95
      · subst h;rfl
      simp[h];omega
    have g5:((x:Int)==39)=decide (x=39):=by
      by_cases h:x=39
      · subst h;rfl
      simp[h];omega
    generalize bU x=b1 at*;generalize cR x=b2 at*;generalize ea x=G at*;generalize decide (x=95)=b4 at*;generalize decide (x=39)=U at*;have V:∃q,q=kO t x:=⟨_,rfl⟩;obtain⟨q,X⟩:=V;have HQ:=Z_ X.symm;rw[<- X]at O HY;clear X;replace hx:=hx.symm;have D:x_ (q=o_->∃n:Nat,(k:Int) - a=n/\a+n<=s.size/\x_ ((∀j,a<=j->j<a+n->kO t (bh s j)=v_)/\(a+n<s.size->kO t (bh s (a+n))=o_))):=Z_ λh=>by
      refine⟨k - a,by omega,by omega,Z_ ⟨λj h1 h2=>K.o j h1 O_,λ_=> ?_⟩⟩;rw[show a+(k - a)=k by omega,I.o,HQ.o];exact h
    have hh:b1=v_\/(b1=o_/\b2=v_)\/(b1=o_/\b2=o_/\G=v_)\/(b1=o_/\b2=o_/\G=o_/\b4=v_)\/(b1=o_/\b2=o_/\G=o_/\b4=o_/\t=v_/\U=v_)\/(b1=o_/\b2=o_/\G=o_/\b4=o_/\t=o_)\/(b1=o_/\b2=o_/\G=o_/\b4=o_/\t=v_/\U=o_):=by
      cases b1<;>cases b2<;>cases G<;>cases b4<;>cases t<;>cases U<;>simp
    rcases hh with rfl|⟨rfl,rfl⟩|⟨rfl,rfl,rfl⟩|⟨rfl,rfl,rfl,rfl⟩|⟨rfl,rfl,rfl,rfl,rfl,rfl⟩|⟨rfl,rfl,rfl,rfl,rfl⟩|⟨rfl,rfl,rfl,rfl,rfl,rfl⟩;all_goals go_wp2_with (first|(go_at_call 172;refine HS.o.mono ?_;rintro e w2 ⟨rfl,rfl⟩)|(go_at_call 175;refine HG.o.mono ?_;rintro e w2 ⟨rfl,rfl⟩)|(go_at_call 176;refine HD.o.mono ?_;rintro e w2 ⟨rfl,rfl⟩))
    all_goals first
      | (go_ret
         obtain⟨n,h1,h2,Y⟩:=D.o (by rw[O.o];rfl);exact⟨n,by rw[<- h1];rfl,h2,Y,rfl⟩)
      | (go_roundw
         case rel=>exact⟨k+1,by omega,by omega,by go_num,Z_ (HY.o (by rw[O.o];simp)),by first|rfl|trivial⟩
         simp[intOf];omega)
  have Z:k=s.size:=by omega
  have D:x_ (∃n:Nat,(k:Int) - a=n/\a+n<=s.size/\x_ ((∀j,a<=j->j<a+n->kO t (bh s j)=v_)/\(a+n<s.size->kO t (bh s (a+n))=o_))):=Z_
    ⟨k - a,by omega,by omega,Z_ ⟨λj h1 h2=>K.o j h1 O_,λh=>by omega⟩⟩
  clear Z;go_wp2;go_ret;obtain⟨n,h1,h2,Y⟩:=D.o;exact⟨n,by rw[<- h1];rfl,h2,Y,rfl⟩
end Go.Proofs.YtaalbcfpacpgfaaGreat
namespace Go.Typ
def aY:List UInt8->Bool
 |[]=>o_
 |c::cs=>(bU c.toNat||decide (c.toNat=95))&&(c::cs).all (λb=>kO v_ b.toNat)&& !((c::cs)∈ey:Bool)
end Go.Typ
namespace Go.Proofs.YtaalbcfpacpgfaaGreat
open Go.RowKit Go.Lib Go.Vfs Go.Par Go.Typ
variable{s:ByteArray}
theorem Eb(s:ByteArray)(w:j_)(h0:0<s.size)(hs:s.size<=9223372036854775807):
  H_ h_ 177 #[g_ s,e_ d_ 0] w λe w'=>∃z,e=k_ (e_ d_ z)/\w'=w:=by
 by_cases h2:1<s.size
 ·go_enter Tryz.func177,Tryz.ntmps177
  go_wp2;all_goals(go_ret;exact⟨_,rfl,rfl⟩)
 go_enter Tryz.func177,Tryz.ntmps177;go_wp2;all_goals(go_ret;exact⟨_,rfl,rfl⟩)
theorem iA(h0:0<s.size):aY s.data.toList=((bU (bh s 0)||decide (bh s 0=95))&&s.data.toList.all (λb=>kO v_ b.toNat)&& !(s.data.toList∈ey:Bool)):=by
 unfold bh;have j:0<s.data.toList.length:=by rw[Ko];exact h0
 cases hs:s.data.toList with
 |nil=>rw[hs]at j;simp at j
 |cons c cs=>rfl
theorem lh{p:Nat->Bool}:s.data.toList.all (λb=>p b.toNat)=v_↔∀j,j<s.size->p (bh s j)=true:=by
 have t:s.data.toList.length=s.size:=by rw[Ko];rfl
 rw[LH];constructor
 ·intro h j hj
  have:s.data.toList.getD j 0∈s.data.toList:=by
   rw[s_,w_ O_];exact JB _
  exact h _ this
 intro h x hx;obtain⟨j,hj,rfl⟩:=J4 hx;have:=h j O_;unfold bh at this;rwa[s_,w_ hj]at this
theorem iM(s:ByteArray):s.extract 0 s.size=s:=by
 apply L7;rw[ByteArray.data_extract];show s.data.extract 0 s.data.size=s.data;exact Array.extract_size
theorem tj(h0:0<s.size)(K:bU (bh s 0)=v_\/bh s 0=95){n:Nat}(hn:n<=s.size)(hj:∀j,j<n->kO v_ (bh s j)=v_)(he:n<s.size->kO v_ (bh s n)=o_)
  {z:Int} (D:z=1↔(s.extract 0 n).data.toList∉ey):(z=1->(n:Int)=s.size->aY s.data.toList=v_)/\(aY s.data.toList=v_->z=1/\(n:Int)=s.size):=by
 rw[iA h0];constructor
 ·intro h1 h2
  have G:n=s.size:=by omega
  subst G;rw[iM]at D;have M:=D.1 h1;have I:=(lh (p:=kO v_)).2 hj;rw[I];rcases K with h|h<;>simp[h,M]
 intro h;simp only[Ku,Bool.not_eq_true',Mr]at h;have I:=(lh (p:=kO v_)).1 h.1.2;have J:n=s.size:=by
  by_cases t:n<s.size
  ·rw[I n t]at he
   cases he t
  omega
 subst J;rw[iM]at D;exact⟨D.2 h.2,rfl⟩
theorem kN(h0:0<s.size)(j:¬(bU (bh s 0)=v_\/bh s 0=95)):aY s.data.toList=false:=by
 rw[iA h0];simp only[not_or]at j;simp[j.1,j.2]
theorem Cx(s:ByteArray)(w:j_)(h0:0<s.size)(hs:s.size<=9223372036854775807):
  H_ h_ 156 #[g_ s,e_ d_ 0] w λe w'=>∃z n:Int,e=k_ (.tuple #[e_ d_ z,e_ d_ n])/\(z=1->n=s.size->aY s.data.toList=v_)/\(aY s.data.toList=v_->z=1/\n=s.size)/\w'=w:=by
 obtain⟨x,hx⟩:∃x,s[0].toNat=x:=⟨_,rfl⟩;have HX:x_ (bh s 0=x):=Z_ (by rw[<-hx];exact(ij s 0 h0).symm);have D:=Z_ (kM x w);have J:=Z_ (o7 x w);have HD:=Z_ (kL x w);obtain⟨b1,G⟩:∃b,b=bU x:=⟨_,rfl⟩;obtain⟨b2,K⟩:∃b,b=cR x:=⟨_,rfl⟩;obtain⟨b3,M⟩:∃b,b=ea x:=⟨_,rfl⟩;rw[<-G]at D;rw[<-K]at J;rw[<-M]at HD;have X:=Z_ G;have bb:=Z_ K;have bd:=Z_ M;clear G K M;by_cases hn:b1=v_\/x=95
 ·have Y:=Z_ (AI s v_ 0 w O_ hs)
  have g4:b1=o_->((x:Int)==95)=true:=λh=>by
   rcases hn with h'|h'
   ·rw[h]at h';cases h'
   subst h';rfl
  have a1:=Z_ g4;clear g4;have HF:x_ (bU (bh s 0)=v_\/bh s 0=95):=Z_ (by rw[HX.o,<-X.o];exact hn);clear hn;go_enter Tryz.func156,Tryz.ntmps156;cases b1
  ·have g4:=a1.o rfl
   go_wp2_with (first|(go_at_call 172;refine D.o.mono ?_;rintro e w2 ⟨rfl,rfl⟩)|(go_at_call 173;refine Y.o.mono ?_;rintro e w2 ⟨n,rfl,hn,O,rfl⟩)|(go_at_call 174;refine(nL _ _).mono ?_;rintro e w2 ⟨z,rfl,Z,rfl⟩;have HZ:=Z_ Z;clear Z))
   go_ret2
   have h:=tj h0 HF.o (n:=n) O_ (λj hj=>O.o.1 j O_ O_) (λad=>by have:=O.o.2 O_;rwa[Lp]at this) HZ.o;exact⟨z,n,rfl,h.1,h.2,rfl⟩
  go_wp2_with (first|(go_at_call 172;refine D.o.mono ?_;rintro e w2 ⟨rfl,rfl⟩)|(go_at_call 173;refine Y.o.mono ?_;rintro e w2 ⟨n,rfl,hn,O,rfl⟩)|(go_at_call 174;refine(nL _ _).mono ?_;rintro e w2 ⟨z,rfl,Z,rfl⟩;have HZ:=Z_ Z;clear Z))
  go_ret2
  have h:=tj h0 HF.o (n:=n) O_ (λj hj=>O.o.1 j O_ O_) (λad=>by have:=O.o.2 O_;rwa[Lp]at this) HZ.o;exact⟨z,n,rfl,h.1,h.2,rfl⟩
 have HF:x_ (aY s.data.toList=o_):=Z_ (kN h0 (by rw[HX.o,<-X.o];exact hn));have G:b1=false:=by cases b1;rfl;exact absurd (.inl rfl) hn
 subst G;have ak:¬x=95:=λh=>hn (.inr h)
 have g4:((x:Int)==95)=false:=by simp;omega
 clear hn ak;rw[HF.o];have Y:=λt a h=>Z_ (AI s t a w h hs)
 have a2:=Z_ (Eb s w h0 hs);go_enter Tryz.func156,Tryz.ntmps156;cases b2
 ·cases b3
  ·have ba:((x:Int)==39)=decide (x=39):=by
    by_cases h:x=39
    ·subst h;rfl
    simp[h];omega
   obtain⟨b4,av⟩:∃b,b=decide (x=39):=⟨_,rfl⟩;rw[<-av]at ba;clear av;cases b4
   ·go_wp2_with (first|(go_at_call 172;refine D.o.mono ?_;rintro e w2 ⟨rfl,rfl⟩)|(go_at_call 175;refine J.o.mono ?_;rintro e w2 ⟨rfl,rfl⟩)|(go_at_call 176;refine HD.o.mono ?_;rintro e w2 ⟨rfl,rfl⟩)|(go_at_call 177;refine a2.o.mono ?_;rintro e w2 ⟨z,rfl,rfl⟩))
    all_goals go_ret2
    all_goals exact⟨_,_,rfl,by simp,by simp,rfl⟩
   by_cases h1:1<s.size
   ·obtain⟨y,hy⟩:∃y,s[1].toNat=y:=⟨_,rfl⟩
    have U:=Z_ (kM y w);obtain⟨b5,I⟩:∃b,b=bU y:=⟨_,rfl⟩;rw[<-I]at U;clear I;have V:=Y o_ 1 O_;cases b5
    ·go_wp2_with (first|(go_at_call 172;refine D.o.mono ?_;rintro e w2 ⟨rfl,rfl⟩;clear D)|(go_at_call 175;refine J.o.mono ?_;rintro e w2 ⟨rfl,rfl⟩)|(go_at_call 176;refine HD.o.mono ?_;rintro e w2 ⟨rfl,rfl⟩)|(go_at_call 172;refine U.o.mono ?_;rintro e w2 ⟨rfl,rfl⟩))
     all_goals go_ret2
     all_goals exact⟨_,_,rfl,by simp,by simp,rfl⟩
    go_wp2_with (first|(go_at_call 172;refine D.o.mono ?_;rintro e w2 ⟨rfl,rfl⟩;clear D)|(go_at_call 175;refine J.o.mono ?_;rintro e w2 ⟨rfl,rfl⟩)|(go_at_call 176;refine HD.o.mono ?_;rintro e w2 ⟨rfl,rfl⟩)|(go_at_call 172;refine U.o.mono ?_;rintro e w2 ⟨rfl,rfl⟩)|(go_at_call 173;refine V.o.mono ?_;rintro e w2 ⟨n,rfl,hn,O,rfl⟩));all_goals go_ret2
    all_goals exact⟨_,_,rfl,by simp,by simp,rfl⟩
   go_wp2_with (first|(go_at_call 172;refine D.o.mono ?_;rintro e w2 ⟨rfl,rfl⟩)|(go_at_call 175;refine J.o.mono ?_;rintro e w2 ⟨rfl,rfl⟩)|(go_at_call 176;refine HD.o.mono ?_;rintro e w2 ⟨rfl,rfl⟩));all_goals go_ret2
   all_goals first|exact⟨_,_,rfl,by simp,by simp,rfl⟩|exact⟨0,0,rfl,by simp,rfl⟩|exact⟨0,0,rfl,rfl⟩|exact⟨0,0,rfl,by simp⟩|exact⟨0,0,rfl⟩
  go_wp2_with (first|(go_at_call 172;refine D.o.mono ?_;rintro e w2 ⟨rfl,rfl⟩)|(go_at_call 175;refine J.o.mono ?_;rintro e w2 ⟨rfl,rfl⟩)|(go_at_call 176;refine HD.o.mono ?_;rintro e w2 ⟨rfl,rfl⟩))
  go_loopw [8] (λiv W=>∃(k:Nat),1<=k/\k<=s.size/\iv=e_ d_ k/\W=w2) (λiv _=>s.size - (intOf iv).toNat)
  case atStart=>exact⟨1,by omega,by omega,rfl,rfl⟩
  obtain⟨k,bf,hk,rfl,rfl⟩:=hrel;by_cases ad:k<s.size
  ·obtain⟨y,hy⟩:∃y,s[k].toNat=y:=⟨_,rfl⟩
   have U:=Z_ (kL y wr);obtain⟨b5,I⟩:∃b,b=ea y:=⟨_,rfl⟩;rw[<-I]at U;clear I;cases b5
   ·go_wp2_with (first|(go_at_call 176;refine U.o.mono ?_;rintro e w2 ⟨rfl,rfl⟩))
    go_ret2
    exact⟨_,_,rfl,by simp,by simp,rfl⟩
   go_wp2_with (first|(go_at_call 176;refine U.o.mono ?_;rintro e w2 ⟨rfl,rfl⟩));go_roundw
   case rel=>exact⟨k+1,by omega,by omega,by go_num,by first|rfl|trivial⟩
   simp[intOf];omega
  have bg:k=s.size:=by omega
  go_wp2
  go_ret2
  exact⟨_,_,rfl,by simp,by simp,rfl⟩
 have V:=Y v_ 0 O_;go_wp2_with (first|(go_at_call 172;refine D.o.mono ?_;rintro e w2 ⟨rfl,rfl⟩)|(go_at_call 175;refine J.o.mono ?_;rintro e w2 ⟨rfl,rfl⟩)|(go_at_call 173;refine V.o.mono ?_;rintro e w2 ⟨n,rfl,hn,O,rfl⟩))
 go_ret2
 exact⟨2,n,rfl,by simp,by simp,rfl⟩
theorem wA(s:ByteArray)(w:j_)(hs:s.size<=9223372036854775807):
  H_ h_ 145 #[g_ s] w λe w'=>∃z,e=k_ (e_ d_ z)/\(z=1↔aY s.data.toList=v_)/\w'=w:=by
 by_cases h0:0<s.size
 ·have M:=Z_ (Cx s w h0 hs)
  have O:(s.toList==[])=false:=by
   rw[<-iL];have K:0<s.data.toList.length:=by rw[Ko];exact h0
   cases h:s.data.toList with
   |nil=>rw[h]at K;simp at K
   |cons a l=>rfl
  go_enter Tryz.func145,Tryz.ntmps145;go_wp2_with (go_at_call 156;refine M.o.mono ?_;rintro e w2 ⟨z,n,rfl,j,t,rfl⟩;have G:=Z_ j;have D:=Z_ t;clear j t)
  ·go_ret
   rename_i I
   refine⟨0,rfl,⟨λh=>(by cases h),λh=>?_⟩,rfl⟩;have:=(D.o h).2;simp[this]at I
  go_ret
  rename_i I
  refine⟨z,rfl,⟨λh=>G.o h (by simpa using I),λh=>(D.o h).1⟩,rfl⟩
 have J:s=⟨#[]⟩:=by
  apply L7;apply Array.eq_empty_of_size_eq_zero;show s.size=0;omega
 subst J;clear h0;go_enter Tryz.func145,Tryz.ntmps145;go_wp2;go_ret;exact⟨0,rfl,by simp[aY],rfl⟩
end Go.Proofs.YtaalbcfpacpgfaaGreat
namespace Go.Typ
def gV(T:Ty):Bool:=
  (decide (T.kind=1)&&(decide (0<=T.num)&&decide (T.num<1073741824)&&decide (T.name.toList=[])&&decide (T.args.length=0)))||
  (decide (T.kind=2)&&(decide (T.num=0)&&aY T.name.data.toList))||
  (decide (T.kind=3)&&(decide (T.num=0)&&decide (T.name.toList=[])&&decide (2<=T.args.length)))||
  (decide (T.kind=4)&&(decide (T.num=0)&&decide (T.name.toList=[])&&decide (T.args.length=2)))
end Go.Typ
namespace Go.Proofs.YtaalbcfpacpgfaaGreat
open Go.RowKit Go.Lib Go.Vfs Go.Par Go.Typ
theorem dC(n:Nat):((n:Int)==0)=decide (n=0):=by
 by_cases h:n=0
 ·subst h;rfl
 have:¬(n:Int)=0:=by omega
 simp[h]
theorem ef(n:Nat):((n:Int)==2)=decide (n=2):=by
 by_cases h:n=2
 ·subst h;rfl
 have:¬(n:Int)=2:=by omega
 simp[h,this]
theorem Dg(T:Ty)(v:m_)(w:j_)(M:aG (·<w.heap.size) w v T):
  H_ h_ 179 #[v] w λe w'=>e=k_ (u_ (gV T))/\n_ w w w':=by
 obtain⟨A,c,rfl,hc,hm,hn⟩:=M.form;have O:T.args.length<=9223372036854775807:=by simp only[JT]at hm;omega
 have U:x_ (∀W,H_ h_ 145 #[g_ T.name] W λe w'=>∃z,e=k_ (e_ d_ z)/\(z=1↔aY T.name.data.toList=v_)/\w'=W):=Z_ λW=>wA T.name W hn
 obtain⟨r,hr⟩:=N_ (gV T);rw[<-hr];unfold gV at hr;have t:x_ (∀o:Obj,n_ w w (w.alloc o)):=Z_ λo=>B_.alloc L_ _
 have j:=Z_ hr;clear hr M hc hm hn;unfold cn;by_cases D:T.kind=1
 ·rw[D]at j⊢
  go_enter Tryz.func179,Tryz.ntmps179;go_wp2;all_goals(go_ret;refine⟨J7 (λb=>k_ (u_ b)) ?_,t.o _⟩;rw[j.o])
  all_goals first|(simp[*,dC,ef];done)|(simp[*,dC,ef];omega)
 by_cases G:T.kind=2
 ·rw[G]at j⊢
  go_enter Tryz.func179,Tryz.ntmps179;go_wp2_with (go_at_call 145;refine(U.o _).mono ?_;rintro e w2 ⟨z,rfl,V,rfl⟩;have X:(z==1)=aY T.name.data.toList:=by(rw[Bool.eq_iff_iff,<-V];simp));all_goals(go_ret;refine⟨J7 (λb=>k_ (u_ b)) ?_,t.o _⟩;rw[j.o])
  all_goals first|(simp[*,dC,ef];done)|(simp[*,dC,ef];omega)
 by_cases I:T.kind=3
 ·rw[I]at j⊢
  go_enter Tryz.func179,Tryz.ntmps179;go_wp2;all_goals(go_ret;refine⟨J7 (λb=>k_ (u_ b)) ?_,t.o _⟩;rw[j.o])
  all_goals first|(simp[*,dC,ef];done)|(simp[*,dC,ef];omega)
 by_cases J:T.kind=4
 ·rw[J]at j⊢
  go_enter Tryz.func179,Tryz.ntmps179;go_wp2;all_goals(go_ret;refine⟨J7 (λb=>k_ (u_ b)) ?_,t.o _⟩;rw[j.o])
  all_goals first|(simp[*,dC,ef];done)|(simp[*,dC,ef];omega)
 have Y:(T.kind==1)=false:=by simpa using D
 have Z:(T.kind==2)=false:=by simpa using G
 have g3:(T.kind==3)=false:=by simpa using I
 have g4:(T.kind==4)=false:=by simpa using J
 have K:x_ (r=o_):=Z_ (by rw[j.o];simp[D,G,I,J]);clear D G I J;go_enter Tryz.func179,Tryz.ntmps179;go_wp2;go_ret;exact⟨by rw[K.o];rfl,t.o _⟩
end Go.Proofs.YtaalbcfpacpgfaaGreat
namespace Go.Par
open Go Go.RowKit
section
variable{F:Fence}{n:Nat}{P:K6}{α:Type}
def AZ{β:Type}(J:β->j_->Prop):Prop:=∀s W W',J s W->n_ W.heap.size W W'->J s W'
def vo(F:Fence)(n:Nat)(P:K6)(g:Nat)(lb:Array m_)(encs:α->Array m_)(C:α->j_->Prop)(R:j_->Prop)(Kp:j_->j_->Prop)(S Sp:List α->Prop)(N:Nat)(w:j_):Prop:=
 ∀(l:Nat) (J Jx:List α->j_->Prop) (W:j_),n_ w.heap.size w W->AZ J->AZ Jx->(∀pre W1,J pre W1->R W1)->
  (∀pre x W1,J pre W1->C x W1->pre.length<N->YieldAt F (n - 1) P l (encs x) W1 λe W'=>(e=k_ (u_ v_)/\J (pre++[x]) W'/\Kp W1 W')\/(e=k_ (u_ o_)/\Jx (pre++[x]) W'))->
  J [] W->CallsIn F n P g (#[.func (.yield l) #[] #[]]++lb) W λe W'=>(∃v,e=k_ v)/\((∃xs,S xs/\J xs W')\/(∃pre,Sp pre/\Jx pre W'))
structure dZ(q:Nat)(r:Loop)(W:j_):Prop where
 loop:W.heap[q+1]?=c_ (.loop r)
 calls:W.heap[q]?=c_ (.deferred (c_ []))
theorem dZ.put{q:Nat}{r j:Loop}{W:j_}(h:dZ q r W):dZ q j (W.putObj (q+1) (.loop j)):=
 ⟨World.putObj_heap_same (Li.1 h.loop).1,(World.putObj_heap_other O_).trans h.calls⟩
theorem dZ.below{q:Nat}{r:Loop}{W W':j_}(h:dZ q r W)(j:n_ W W W'):dZ q r W':=
 ⟨(j.block _ (Typ.ao h.loop)).trans h.loop,(j.block _ (Typ.ao h.calls)).trans h.calls⟩
def fj(q:Nat)(W W':j_):Prop:=∀r,dZ q r W->dZ q r W'
def ED{β:Type}(q:Nat)(I:β->j_->Prop):Prop:=∀s W r r',dZ q r W->I s W->I s (W.putObj (q+1) (.loop r'))
def Cy(q:Nat)(Kp:j_->j_->Prop)(I:List α->j_->Prop)(Ix:Code->List α->j_->Prop)(xs:List α)(W:j_):Exit->Act->j_->Prop
 | .normal,_,W'=>fj q W W'/\Kp W W'/\I xs W'
 | .ret,_,W'=>fj q W W'/\Ix .ret xs W'
 | .exit id,_,W'=>fj q W W'/\Ix (.exit id) xs W'
 | .goto t,_,W'=>fj q W W'/\Ix (.goto t) xs W'
 | .panic _,_,_=>False
 | .outgrown,_,_=>False
theorem oI{g:Operand}{ps:Array Tmp}{assign body:Code}{Q:Exit->Act->j_->Prop}{a:Act}{w:j_}
  (bk:F.round=b_) (h1:1<=n) {gf:Nat} {lb:Array m_} (hg:a.eval g=.func (.func gf) #[] lb) (bm:F.fn gf) (eg:∀args w,(callFunc gf args).run P w=.ok (.enter gf args) w)
  {D:α->Array m_} {C:α->j_->Prop} {R:j_->Prop} {Kp:j_->j_->Prop} {S Sp:List α->Prop} {N:Nat} (a2:vo F (n - 1) P gf lb D C R Kp S Sp N w)
  (av:∀{A B C:j_},Kp A B->Kp B C->Kp A C) (hKn:∀{A B:j_},R A->n_ A A B->Kp A B) (hKb:∀(W:j_) r r',dZ w r W->Kp W (W.putObj (w+1) (.loop r'))) (bn:∀x,(D x).size=ps.size)
  (I:List α->j_->Prop) (Ix:Code->List α->j_->Prop) (hI:AZ I) (hIp:ED w I) (hIx:∀c,AZ (Ix c)) (hIxp:∀c,ED w (Ix c)) (hCb:AZ C) (hCp:ED w C) (hIR:∀pre W,I pre W->R W) (h0:I [] w) (Ax:α->Act->j_->Prop) (hAxp:∀x Y W r r',dZ w r W->Ax x Y W->Ax x Y (W.putObj (w+1) (.loop r')))
  (O:∀(l:Nat) (x:α) (W:j_) (K:Act->j_->Prop),C x W->(∀Y W',n_ W W W'->Ax x Y W'->K Y W')->
   assign.wpIn (F.inRound l) (n - 1 - 1) P (Exit.then K (λ_ _ _=>False)) {tmps:=(ps.zip (D x)).foldl (λt (p,v)=>t.setIfInBounds p v) a.tmps,defers:=[]} W)
  (U:∀(l:Nat) (pre:List α) (x:α) (Y:Act) (W:j_),I pre W->C x W->pre.length<N->Ax x Y W->(∃r,dZ w r W)->body.wpIn (F.inRound l) (n - 1 - 1) P (Cy w Kp I Ix (pre++[x]) W) Y W)
  (V:∀(xs:List α) (W:j_),S xs->I xs W->W.heap[w.heap.size]?=c_ (.deferred (c_ []))->Q .normal {a with defers:={target:=.collected w,args:=#[]}::a.defers} W)
  (X:∀(c:Code) (pre:List α) (W:j_),Sp pre->Ix c pre W->W.heap[w.heap.size]?=c_ (.deferred (c_ []))->c.wpIn F n P Q {a with defers:={target:=.collected w,args:=#[]}::a.defers} W):
  (Code.rangeFunc g ps assign body).wpIn F n P Q a w:=by
 refine wpIn_rangeFunc λfn bo=>?_
 rw[bk];obtain⟨L,Z⟩:∃L:LoopState->Option Code->Loop,L=λst pe=>{state:=st,pending:=pe,fn,tmps:=a.tmps,params:=ps,assign,body,defers:=w.heap.size}:=⟨_,rfl⟩
 obtain⟨q,hq⟩:=N_ (w.heap.size);have ba:dZ q (L .ready b_) ((w.alloc (.deferred (c_ []))).alloc (.loop (L .ready b_))):=by
  refine⟨?_,?_⟩
  ·have:=World.alloc_heap_new (w.alloc (.deferred (c_ []))) (.loop (L .ready b_));rwa[JQ,<-hq]at this
  rw[hq];exact(z_ _ _ _ (by simp)).trans (World.alloc_heap_new w _)
 have a1:n_ w w ((w.alloc (.deferred (c_ []))).alloc (.loop (L .ready b_))):=((JG _ w).alloc L_ _).alloc (by simp) _;have bb:I [] ((w.alloc (.deferred (c_ []))).alloc (.loop (L .ready b_))):=hI _ _ _ h0 a1;have ad:=run_enterLoop_outer (P:=P) (w:=w) fn a.tmps ps assign body;rw[<-hq]at hIp hCp hAxp U hKb V X;replace hIxp:∀c,ED q (Ix c):=by rw[hq];exact hIxp
 obtain⟨W1,bd⟩:=N_ ((w.alloc (.deferred (c_ []))).alloc (.loop (L .ready b_)));rw[<-bd]at ba a1 bb;refine⟨w+1,[{target:=.collected w,args:=#[]}],W1,{target:=.fn (.func gf) lb,args:=#[.func (.yield (w+1)) #[] #[]]},W1,gf,#[.func (.yield (w+1)) #[] #[]]++lb,W1,?_,?_,?_,?_,λ_=>h1,?_⟩
 ·rw[bd,Z];exact ad
 ·simp only[resolve,hg]
  simp[go_sem]
 ·intro f' bf;simp[Target.leads]at bf;subst bf;exact bm
 ·simp[invoke,go_sem,eg]
 rw[<-hq];refine(a2 (q+1) (λpre W=>I pre W/\dZ q (L .ready b_) W) (λpre W=>∃c,Ix c pre W/\dZ q (L .done (c_ c)) W) W1 a1
  (λs A B hs hb=>⟨hI s A B hs.1 hb,hs.2.below hb⟩)
  (λs A B ⟨c,hc,M⟩ hb=>⟨c,hIx c s A B hc hb,M.below hb⟩)
  (λpre W h=>hIR pre W h.1) ?_ ⟨bb,ba⟩).mono ?_
 ·rintro pre x W ⟨hi,M⟩ bg hlen
  have hy:=run_yield (P:=P) (args:=D x) M.loop (by rw[Z];exact bn x);rw[Z]at hy;refine⟨fn,_,assign,body,hy,roundIn_of_wpIn bo (O _ x W _ bg λY Wa ak bp=>?_)⟩;have J:dZ q (L .ready b_) Wa:=M.below ak;refine⟨_,run_beginRound J.loop (by rw[Z]),?_⟩;have bj:dZ q {L .ready b_ with state:=.busy} (Wa.putObj (q+1) (.loop {L .ready b_ with state:=.busy})):=J.put;have bt:Kp W (Wa.putObj (q+1) (.loop {L .ready b_ with state:=.busy})):=av (hKn (hIR _ _ hi) ak) (hKb _ _ _ J);have G:∀(jump:Option Code) (W3:j_),fj q (Wa.putObj (q+1) (.loop {L .ready b_ with state:=.busy})) W3->
    (Instr.endRound (q+1) jump).run P W3=.ok (u_ jump.isNone) (W3.putObj (q+1) (.loop (L (if jump.isNone then .ready else .done) jump)))/\dZ q {L .ready b_ with state:=.busy} W3:=λjump W3 bx=>by
   have j:=bx _ bj;have:=run_endRound (P:=P) jump j.loop;rw[Z]at this j⊢;exact⟨this,j⟩
  refine wpIn_mono (U _ pre x Y _ (hIp _ _ _ _ J (hI _ _ _ hi ak)) (hCp _ _ _ _ J (hCb _ _ _ bg ak)) hlen (hAxp _ _ _ _ _ J bp) ⟨_,bj⟩) ?_;rintro e a3 W3 hp;cases e with
  |normal=>
   obtain⟨hr,j⟩:=G b_ W3 hp.1;exact⟨_,_,hr,.inl ⟨rfl,⟨hIp _ _ _ _ j hp.2.2,j.put⟩,av (av bt hp.2.1) (hKb _ _ _ j)⟩⟩
  |ret=>
   obtain⟨hr,j⟩:=G (c_ .ret) W3 hp.1;exact⟨_,_,hr,.inr ⟨rfl,.ret,hIxp _ _ _ _ _ j hp.2,j.put⟩⟩
  |exit id=>
   obtain⟨hr,j⟩:=G (c_ (.exit id)) W3 hp.1;exact⟨_,_,hr,.inr ⟨rfl,.exit id,hIxp _ _ _ _ _ j hp.2,j.put⟩⟩
  |goto t=>
   obtain⟨hr,j⟩:=G (c_ (.goto t)) W3 hp.1;exact⟨_,_,hr,.inr ⟨rfl,.goto t,hIxp _ _ _ _ _ j hp.2,j.put⟩⟩
  |panic ch=>exact hp.elim
  |outgrown=>exact hp.elim
 rintro e W2 ⟨⟨v,rfl⟩,(⟨xs,hS,hi,M⟩|⟨pre,bB,c,hi,M⟩)⟩
 ·have hr:=run_endLoop (P:=P) M.loop (by rw[Z];simp)
  rw[Z]at hr;exact⟨b_,_,hr,by rw[<-hq];exact V xs _ hS (hIp _ _ _ _ M hi) ((World.putObj_heap_other O_).trans M.calls)⟩
 have hr:=run_endLoop (P:=P) M.loop (by rw[Z];simp);rw[Z]at hr;exact⟨c_ c,_,hr,by rw[<-hq];exact X c pre _ bB (hIxp _ _ _ _ _ M hi) ((World.putObj_heap_other O_).trans M.calls)⟩
end
end Go.Par
namespace Go.Typ
mutual
def Ty.list:Ty->List Ty
 | .mk k n s ts=>.mk k n s ts::di ts
def di:List Ty->List Ty
 |[]=>[]
 |t::ts=>t.list++di ts
end
theorem Ty.dd(T:Ty):T.list=T::di T.args:=by cases T;rw[Ty.list];rfl
theorem jV:∀(a b:List Ty),di (a++b)=di a++di b
 |[],b=>by simp[di]
 |t::a,b=>by simp[di,jV a b]
theorem rp{ts:List Ty}{k:Nat}(h:k<ts.length):di (ts.take (k+1))=di (ts.take k)++ts[k].list:=by
 rw[y_ h,jV];simp[di]
theorem m6{ts:List Ty}{k:Nat}(h:k<ts.length):di (ts.take k)++ts[k].list<+:di ts:=by
 rw[<-rp h];refine⟨di (ts.drop (k+1)),?_⟩;rw[<-jV,KJ]
mutual
theorem Ty.iP:∀T:Ty,T.list.length=T.parts
 | .mk k n s ts=>by rw[Ty.list,Ty.parts,Jz,jW ts];omega
theorem jW:∀ts:List Ty,(di ts).length=aT ts
 |[]=>rfl
 |t::ts=>by rw[di,aT,p_,Ty.iP t,jW ts]
end
end Go.Typ
namespace Go.Proofs.YtaalbcfpacpgfaaGreat
open Go.RowKit Go.Lib Go.Vfs Go.Par Go.Typ Go.Shelf
attribute [local go_sem] Oper.semAt_some
theorem CG{P:K6}{m:Nat}(m':Nat){l:Nat}{args:Array m_}{W:j_}{R:Ending->j_->Prop}(h:YieldAt JK m P l args W R):YieldAt JK m' P l args W R:=by
 obtain⟨fn,tmps,assign,body,t,j⟩:=h;exact⟨fn,tmps,assign,body,t,j.1,λc cs _=>j.2 c cs (λd h=>by cases h)⟩
structure jq(n₀:Nat)(W W':j_):Prop where
 below:n_ n₀ W W'
 le:W.heap.size<=W'.heap.size
 same:∀(k:Nat) (cs:Array m_) (fz:Nat×Nat),W.heap[k]?=c_ (f_ cs 61 fz)->W'.heap[k]?=W.heap[k]?
theorem jq.t{j:Nat}{A B C:j_}(h:jq j A B)(k:jq j B C):jq j A C:=
 ⟨h.below.trans k.below,Kj h.le k.le,λi cs D hi=>(k.same i cs D ((h.same i cs D hi).trans hi)).trans (h.same i cs D hi)⟩
theorem jq.of{j:Nat}{W W':j_}(hn:j<=W)(h:n_ W W W'):jq j W W':=⟨h.mono hn,h.size,λk cs D t=>h.block k (ao t)⟩
theorem Fx(l G N:Nat)(J Jx:List (m_×Ty)->j_->Prop)(hJ:AZ J)(hn:∀pre W,J pre W->G<=W.heap.size)
  (hY:∀(m:Nat) pre x W1,J pre W1->aG (·<G) W1 x.1 x.2->pre.length<N->YieldAt JK m h_ l #[x.1] W1 λe W'=>(e=k_ (u_ v_)/\J (pre++[x]) W'/\jq G W1 W')\/(e=k_ (u_ o_)/\Jx (pre++[x]) W')) (T:Ty):
  ∀(n:Nat) (v:m_) (pre:List (m_×Ty)) (W:j_),aG (·<G) W v T->J pre W->pre.length+T.parts<=N->
   CallsIn JK n h_ 194 #[v,.func (.yield l) #[] #[]] W λe W'=>
    (e=k_ (u_ v_)/\(∃q,q.map MX=T.list/\J (pre++q) W')/\jq G W W')\/(e=k_ (u_ o_)/\∃q,q.map MX<+:T.list/\Jx (pre++q) W'):=by
 induction T using Ty.ind with
 |h T ih=>
  intro n v pre W hT hj hN;obtain⟨A,c,rfl,hc,hm,bb⟩:=hT.form;have bo:T.args.length<=9223372036854775807:=by simp only[JT]at hm;omega
  have IH:=Z_ ih;have HY:=Z_ hY;have bd:=Z_ hJ;have bf:=Z_ hn;have HT:=Z_ hT;obtain⟨W1,I⟩:=N_ (W.alloc (f_ #[e_ d_ T.kind,e_ d_ T.num,g_ T.name,a_ A T.args.length c] 61));have K:n_ W W W1:=by rw[I];exact B_.alloc L_ _
  have ad:J pre W1:=hJ _ _ _ hj K;have h0:=hn _ _ hj;have ak:aG (·<G) W1 (cn T.kind T.num T.name A T.args.length c) T:=hT.ae λg hg=>⟨hg,K.block g O_⟩
  obtain⟨fn,tmps,assign,body,hy,hR⟩:=hY (n - 1) pre (cn T.kind T.num T.name A T.args.length c,T) W1 ad ak (by have:=T.dX;omega);have X:x_ (W1.heap[W.heap.size]?=c_ (f_ #[e_ d_ T.kind,e_ d_ T.num,g_ T.name,a_ A T.args.length c] 61 (0,0))):=Z_ (by rw[I];exact r_ _ _);have bg:=Z_ (jq.of h0 K);have HN:=Z_ hN;obtain⟨bx,Y⟩:=N_ (W.heap.size);rw[<-Y]at X;unfold cn;dsimp only[cn]at hy;clear ih hY hJ hn hT hj ad ak K hc hm bb hN;refine callsIn_of_wp Tryz.func194 rfl trivial ?_ rfl;simp only[Tryz.ntmps194,KB,Jz,JP,KR,Lc,KF,KG,KP,KK,Kl,Ka];gi_wp2;rw[<-I,<-Y];clear I Y;rw[hy,Mj];refine⟨(λh=>by cases h),?_⟩;refine hR.mono ?_;clear hy hR;rintro e W2 (⟨rfl,av,j⟩|⟨rfl,a1⟩)
  rotate_left
  ·gi_wp2
   go_ret;exact .inr ⟨rfl,[(cn T.kind T.num T.name A T.args.length c,T)],by rw[T.dd];exact⟨di T.args,by simp⟩,a1⟩
  have M:W2.heap[bx]?=c_ (f_ #[e_ d_ T.kind,e_ d_ T.num,g_ T.name,a_ A T.args.length c] 61 (0,0)):=(j.same _ _ _ X.o).trans X.o;obtain⟨y0,y1,y2,y3⟩:=aX M;have bj:=Z_ av;have bk:=Z_ (bg.o.t j);clear M av j;gi_wp2
  gi_loopw [14] (λiv wr=>∃(k:Nat) (q:List (m_×Ty)),k<=T.args.length/\iv=e_ d_ k/\x_ (q.map MX=di (T.args.take k)/\J (pre++(cn T.kind T.num T.name A T.args.length c,T)::q) wr/\jq G W wr)) (λiv _=>T.args.length - (intOf iv).toNat)
  case atStart=>exact⟨0,[],by omega,rfl,Z_ ⟨by simp[di],bj.o,bk.o⟩⟩
  obtain⟨k,q,hk,rfl,O⟩:=hrel;by_cases D:k<T.args.length
  ·have a2:=HT.o.ae λg hg=>⟨hg,O.o.2.2.below.block g hg⟩
   obtain⟨b,off,A',c',rfl,hb,ht,x0,x1,x2,x3⟩:=a2.arg D;have ba:x_ (∀W5,n_ wr wr W5->CallsIn JK (n - 1) h_ 194 #[cn T.args[k].kind T.args[k].num T.args[k].name A' T.args[k].args.length c',.func (.yield l) #[] #[]] W5 λe W'=>
     (e=k_ (u_ v_)/\x_ ((∃V,V.map MX=di (T.args.take (k+1))/\J (pre++(cn T.kind T.num T.name (c_ ⟨b,off,b_⟩) T.args.length c,T)::V) W')/\jq G W W'))\/(e=k_ (u_ o_)/\x_ (∃q,q.map MX<+:T.list/\Jx (pre++q) W'))):=Z_ λW5 h5=>by
    have hz:=bf.o _ _ O.o.2.1;have bm:(pre++(cn T.kind T.num T.name (c_ ⟨b,off,b_⟩) T.args.length c,T)::q).length+T.args[k].parts<=N:=by
     have h1:=HN.o;have h2:=J7 LC O.o.1;have h3:=(m6 D).length_le;simp only[p_,Ty.iP,jW,KL]at h2 h3;rw[T.parts_eq]at h1;rw[p_,Jz];omega
    refine(IH.o k D (n - 1) _ _ W5 (ht.ae λg hg=>⟨hg,h5.block g O_⟩) (bd.o _ _ _ O.o.2.1 h5) bm).mono ?_;rintro e W' (⟨rfl,⟨V,e2,Z⟩,j⟩|⟨rfl,V,e2,Z⟩)
    ·refine .inl ⟨rfl,Z_ ⟨⟨q++V,?_,?_⟩,O.o.2.2.t ((jq.of hz h5).t j)⟩⟩
     ·rw[Lb,O.o.1,e2,rp D]
     simpa using Z
    refine .inr ⟨rfl,Z_ ⟨(cn T.kind T.num T.name (c_ ⟨b,off,b_⟩) T.args.length c,T)::(q++V),?_,by simpa using Z⟩⟩;rw[T.dd,Ks,Lb,O.o.1];refine(List.prefix_cons_inj _).2 (List.IsPrefix.trans ?_ (m6 D));exact(List.prefix_append_right_inj _).2 e2
   have HB5:x_ (∀o:Obj,n_ wr wr (wr.alloc o)):=Z_ λo=>B_.alloc L_ o
   clear ht a2;generalize T.args[k]=U at*;unfold cn at ba;gi_wp2_with (refine⟨trivial,(λh=>by cases h),?_⟩;gi_at_call 194;refine(ba.o _ (HB5.o _)).mono ?_;rintro e W6 (⟨rfl,H6⟩|⟨rfl,H6⟩))
   ·go_roundw
    case rel=>
     obtain⟨⟨V,h1,h2⟩,h3⟩:=H6.o;exact⟨k+1,V,by omega,by go_num,Z_ ⟨h1,h2,h3⟩⟩
    simp[intOf];omega
   go_ret;exact .inr ⟨rfl,H6.o⟩
  have bn:k=T.args.length:=by omega
  have HE:x_ ((∃q,q.map MX=T.list/\J (pre++q) wr)/\jq G W wr):=Z_ (by
   obtain⟨h1,h2,h3⟩:=O.o;rw[bn,JO]at h1;exact⟨⟨_::q,by rw[T.dd,Ks,h1],h2⟩,h3⟩)
  gi_wp2;go_ret;exact .inl ⟨rfl,HE.o⟩
end Go.Proofs.YtaalbcfpacpgfaaGreat
namespace Go.Typ
theorem aG.live{S:Nat->Prop}{W:j_}{v:m_}{T:Ty}(h:aG S W v T):aG (λg=>S g/\g<W.heap.size) W v T:=by
 induction h with
 |mk k num name ts A c vs hc hm hn hcell hsub t=>
  refine .mk k num name ts A c vs hc hm hn (λh0=>?_) t;obtain⟨b,off,e,D,j⟩:=hcell h0;exact⟨b,off,e,⟨D,JY W _ (j 0 h0 0 O_)⟩,j⟩
def cJ(T:Ty):Bool:=decide (T.parts<=300)&&T.list.all gV
end Go.Typ
namespace Go.Proofs.YtaalbcfpacpgfaaGreat
open Go.RowKit Go.Lib Go.Vfs Go.Par Go.Typ Go.Shelf
attribute [local go_sem] Oper.semAt_some
variable{W w:j_}{b q:Nat}{u x:m_}
theorem jD{u0:m_}{t:Ki}(h:W.heap[b]?=c_ (f_ #[u0] t (0,0))):W.cell? ⟨b,0,b_⟩=c_ u0/\W.frozen? ⟨b,0,b_⟩=false:=by
 simp[E_,JW,h]
theorem m9{t:Ki}(h:w.heap[b]?=c_ (f_ #[u] t (0,0))):(w.setCell ⟨b,0,b_⟩ x).heap[b]?=c_ (f_ #[x] t (0,0)):=by
 have:=ai h 0 x;simpa using this
theorem fu{a:Kb}{k:Nat}(h:k≠a.block):(w.setCell a x).heap[k]?=w.heap[k]?:=JZ _ _ _ _ h
theorem jM{B:Nat}{o:Obj}(h:n_ B w W)(t:B<=q):n_ B w (W.putObj q o):=
 ⟨h.os,h.tape,h.output,by have:=h.size;simpa using this,λk j=>(World.putObj_heap_other O_).trans (h.block k j)⟩
theorem kJ{W':j_}(h:∀k,q<=k->k<W.heap.size->W'.heap[k]?=W.heap[k]?):fj q W W':=λr j=>
 ⟨(h _ O_ (ao j.loop)).trans j.loop,(h _ L_ (ao j.calls)).trans j.calls⟩
theorem fj.t{A B C:j_}(h:fj q A B)(k:fj q B C):fj q A C:=λr j=>k r (h r j)
theorem jq.set{D:Nat}{t:Ki}(h:W.heap[b]?=c_ (f_ #[u] t (0,0)))(G:t≠61)(I:D<=b):jq D W (W.setCell ⟨b,0,b_⟩ x):=
 ⟨B_.setCell (p:=⟨b,0,b_⟩) I _,by simp[Kd],λk cs J j=>fu (by
  rintro rfl;rw[h]at j;injection j with j;injection j with _ j;exact G j)⟩
theorem BN(k num:Int)(name:ByteArray)(A:Option Kb)(n c:Nat)(w:j_):
  H_ h_ 178 #[cn k num name A n c] w λe w'=>e=k_ (.func (.func 193) #[] #[i_ (c_ ⟨w,0,b_⟩)])/\w'=w.alloc (f_ #[e_ d_ k,e_ d_ num,g_ name,a_ A n c] 61):=by
 unfold cn;go_enter Tryz.func178,Tryz.ntmps178;go_wp2;go_ret;exact⟨rfl,rfl⟩
theorem yK(w:j_)(n j I:Nat)(T:Ty)(A:Option Kb)(c:Nat)(t:w.heap[I]?=c_ (f_ #[e_ d_ T.kind,e_ d_ T.num,g_ T.name,a_ A T.args.length c] 61 (0,0)))
  (U:aG (·<j) w (cn T.kind T.num T.name A T.args.length c) T) (hn:j<=w):
  vo JK n h_ 193 #[i_ (c_ ⟨I,0,b_⟩)] (λx:m_×Ty=>#[x.1]) (λx W=>aG (·<j) W x.1 x.2) (λW=>j<=W.heap.size) (jq j) (λxs=>xs.map MX=T.list) (λpre=>pre.map MX<+:T.list) T.parts w:=by
 intro l J V W K X Y M Z h0;obtain⟨y0,y1,y2,y3⟩:=aX ((K.block I (ao t)).trans t);have G:aG (·<j) W (cn T.kind T.num T.name A T.args.length c) T:=U.ae λg hg=>⟨hg,K.block g O_⟩
 have D:=Fx l j T.parts J V X M (λm pre x W1 hj hc hl=>CG m (Z pre x W1 hj hc hl)) T (n - 1) _ [] W G h0 (by simp);unfold cn at D;have HW:=Z_ D;clear D G K t U;refine callsIn_of_wp Tryz.func193 rfl trivial ?_ rfl;simp only[Tryz.ntmps193,KB,Jz,JP,KR,Lc,KF,KG,KP,KK,Kl,Ka];gi_wp2_with (refine⟨trivial,(λh=>by cases h),?_⟩;gi_at_call 194;refine HW.o.mono ?_;rintro e W6 (⟨rfl,⟨q,O,hj⟩,hk⟩|⟨rfl,q,O,hj⟩))
 ·go_end0
  exact⟨⟨_,rfl⟩,.inl ⟨q,O,by simpa using hj⟩⟩
 go_end0
 exact⟨⟨_,rfl⟩,.inr ⟨q,O,by simpa using hj⟩⟩
structure RQ(w:j_)(b1 b2 q:Nat):Prop where
 l1:w.heap.size<=b1
 l2:w.heap.size<=b2
 h1:b1<q
 h2:b2<q
 ne:b1≠b2
structure RI(w:j_)(b1 b2 q:Nat)(pre:List (m_×Ty))(W:j_):Prop where
 res:W.heap[b1]?=c_ (f_ #[u_ o_] 4 (0,0))
 qF:W.heap[b2]?=c_ (f_ #[e_ d_ (pre.length:Nat)] 3 (0,0))
 EB:pre.length<=300
 fit:∀x∈pre,gV x.2=v_
 below:n_ w.heap.size w W
 size:q<=W.heap.size
structure RB(w:j_)(b1 q:Nat)(pre:List (m_×Ty))(W:j_):Prop where
 res:W.heap[b1]?=c_ (f_ #[u_ o_] 4 (0,0))
 bad:300<pre.length\/∃x∈pre,gV x.2=o_
 below:n_ w.heap.size w W
 size:q<=W.heap.size
section
variable{w W W':j_}{b1 b2 q:Nat}{pre:List (m_×Ty)}
variable{p:Nat}{o:Obj}
theorem RI.put(j:RQ w b1 b2 q)(h:RI w b1 b2 q pre W)(hp:q<=p):RI w b1 b2 q pre (W.putObj p o):=by
 obtain⟨l1,l2,h1,h2,ne⟩:=j;exact⟨(World.putObj_heap_other O_).trans h.res,(World.putObj_heap_other O_).trans h.qF,h.EB,h.fit,jM h.below O_,by have:=h.size;simpa using this⟩
theorem RB.put(j:RQ w b1 b2 q)(h:RB w b1 q pre W)(hp:q<=p):RB w b1 q pre (W.putObj p o):=by
 obtain⟨l1,l2,h1,h2,ne⟩:=j;exact⟨(World.putObj_heap_other O_).trans h.res,h.bad,jM h.below O_,by have:=h.size;simpa using this⟩
theorem RI.fl(t:RQ w b1 b2 q)(h:RI w b1 b2 q pre W)(j:n_ W W W'):RI w b1 b2 q pre W':=by
 have hs:=h.size;obtain⟨l1,l2,h1,h2,ne⟩:=t;exact⟨(j.block _ O_).trans h.res,(j.block _ O_).trans h.qF,h.EB,h.fit,h.below.trans (j.mono O_),by have:=j.size;omega⟩
theorem RB.fl(t:RQ w b1 b2 q)(h:RB w b1 q pre W)(j:n_ W W W'):RB w b1 q pre W':=by
 have hs:=h.size;obtain⟨l1,l2,h1,h2,ne⟩:=t;exact⟨(j.block _ O_).trans h.res,h.bad,h.below.trans (j.mono O_),by have:=j.size;omega⟩
end
theorem vR{w W:j_}{j:Array m_}{q b:Nat}{r:Bool}(t2:j.getD 2 q_=i_ (c_ ⟨b,0,b_⟩))(G:W.heap[q]?=c_ (.deferred (c_ [])))(h2:W.heap[b]?=c_ (f_ #[u_ r] 4 (0,0)))(I:n_ w w W)(J:b≠q)(K:w<=q):
  bodyPostM JK 7 h_ Tryz.f157 (λM w'=>M=k_ (u_ r)/\n_ w w w') .ret {tmps:=j,defers:=[{target:=.collected q,args:=#[]}]} W:=by
 refine⟨by simp,.inl ⟨_,_,rfl,run_takeDeferred G,?_⟩⟩;have O:(W.putObj q (.deferred b_)).cell? ⟨b,0,b_⟩=c_ (u_ r):=(jD ((World.putObj_heap_other J).trans h2)).1;refine⟨u_ r,?_,rfl,jM I K⟩;have t:Tryz.f157.results=#[.cell 2 4]:=rfl;have a3:=Tryz.isAgg4;have z3:=Tryz.sizeOf4;have D:j[2]?.getD q_=i_ (c_ ⟨b,0,b_⟩):=by simpa using t2
 simp[results,t,D,O,go_sem]
theorem BU(T:Ty)(v:m_)(w:j_)(hT:aG (·<w.heap.size) w v T):
  H_ h_ 157 #[v] w λe w'=>e=k_ (u_ (cJ T))/\n_ w w w':=by
 obtain⟨A,c,rfl,hc,hm,bN⟩:=hT.form;have HT:=Z_ hT;clear hT hc hm bN;unfold cn;refine(Kg (n:=7)).1 ?_;refine callsIn_of_wp_marks Tryz.func157 rfl trivial ?_ rfl;simp only[Tryz.ntmps157,KB,Jz,JP,KR,Lc,KF,KG,KP,KK,Kl,Ka];gi_wp2_with (refine⟨trivial,?_⟩;gi_at_call 178;refine(Kg.2 (BN _ _ _ _ _ _ _)).mono ?_;rintro e w1 ⟨rfl,rfl⟩)
 obtain⟨W0,Z⟩:=N_ (((((w.alloc (f_ #[.int d_ T.kind,.int d_ T.num,.string T.name,a_ A T.args.length c] 61)).alloc (f_ #[u_ o_] 4)).alloc (f_ #[.int d_ 0] 3)).alloc (f_ #[.int d_ T.kind,.int d_ T.num,.string T.name,a_ A T.args.length c] 61)));rw[<-Z];have bk:W0.heap.size=w.heap.size+4:=by rw[Z];simp
 have bg:n_ w w W0:=by
  rw[Z];exact((((JG _ w).alloc L_ _).alloc (by simp) _).alloc (by simp;omega) _).alloc (by simp;omega) _
 have bO:W0.heap[w.heap.size+1]?=c_ (f_ #[u_ o_] 4 (0,0))/\W0.heap[w.heap.size+2]?=c_ (f_ #[.int d_ 0] 3 (0,0))/\W0.heap[w.heap.size+3]?=c_ (f_ #[.int d_ T.kind,.int d_ T.num,.string T.name,a_ A T.args.length c] 61 (0,0)):=by
  rw[Z];simp only[World.alloc,Mm,LY];refine⟨?_,?_,?_⟩<;>simp<;>omega
 obtain⟨k1,k2,k3⟩:=bO;clear Z;have bm:aG (·<w.heap.size) W0 (cn T.kind T.num T.name A T.args.length c) T:=HT.o.ae λg hg=>⟨hg,bg.block g hg⟩
 have e2:w.heap.size+1+1=w.heap.size+2:=rfl;have e3:w.heap.size+2+1=w.heap.size+3:=rfl;rw[e2,e3];have bR:w.heap.size+3<W0.heap.size:=by omega
 obtain⟨b0,cc⟩:∃b,b=w.heap.size:=⟨_,rfl⟩;obtain⟨b1,ad⟩:∃b,b=w.heap.size+1:=⟨_,rfl⟩;obtain⟨b2,ak⟩:∃b,b=w.heap.size+2:=⟨_,rfl⟩;obtain⟨b3,av⟩:∃b,b=w.heap.size+3:=⟨_,rfl⟩;have j:x_ (RQ w b1 b2 (w+4)):=Z_ ⟨by omega,by omega,by omega,by omega,by omega⟩;rw[<-ad]at k1;rw[<-ak]at k2;rw[<-av]at k3;rw[<-ad,<-ak,<-av];have b5:=Z_ (yK W0 6 w b3 T A c k3 bm O_);have bn:x_ (RI w b1 b2 (w+4) [] W0):=Z_ ⟨k1,k2,by simp,by simp,bg,by omega⟩;have G:=Z_ bk;clear k1 k2 k3 bm bg bk bR e2 e3 ad ak av;refine oI (F:=JK) rfl O_ (gf:=193) (lb:=#[i_ (c_ ⟨b3,0,b_⟩)]) rfl trivial (enters_of Tryz.func193 K_ rfl)
  b5.o (λh k=>h.t k) ?hKn ?hKb (λ_=>rfl)
  (λpre W=>RI w b1 b2 (w+4) pre W) (λcd xs W=>cd=.ret/\RB w b1 (w+4) xs W) ?hI ?hIp ?hIx ?hIxp ?hCb ?hCp ?hIR bn.o
  (λx a' W=>∃bp A' c',x.1=cn x.2.kind x.2.num x.2.name A' x.2.args.length c'/\W.heap[bp]?=c_ (f_ #[.int d_ x.2.kind,.int d_ x.2.num,.string x.2.name,a_ A' x.2.args.length c'] 61 (0,0))/\a'={tmps:=#[.agg #[.int d_ T.kind,.int d_ T.num,.string T.name,a_ A T.args.length c],i_ (c_ ⟨w,0,b_⟩),i_ (c_ ⟨b1,0,b_⟩),i_ (c_ ⟨b2,0,b_⟩),i_ (c_ ⟨bp,0,b_⟩),.agg #[.int d_ T.kind,.int d_ T.num,.string T.name,a_ A T.args.length c],.func (.func 193) #[] #[i_ (c_ ⟨b3,0,b_⟩)],x.1,q_,q_,q_,q_,q_,q_,q_,q_,q_],defers:=[]})
  ?hAxp ?assign ?body ?done ?stop
 case hKn=>exact λhr hb=>jq.of hr hb
 case hKb=>
  intro W r r' V;refine⟨jM B_ (by have:=G.o;omega),by simp,λk cs fz hk=>World.putObj_heap_other ?_⟩;rintro rfl;rw[V.loop]at hk;cases hk
 case hI=>exact λpre X Y hi hb=>RI.fl j.o hi hb
 case hIp=>exact λpre X r r' _ hi=>RI.put j.o hi (by have:=G.o;omega)
 case hIx=>exact λcd pre X Y hi hb=>⟨hi.1,RB.fl j.o hi.2 hb⟩
 case hIxp=>exact λcd pre X r r' _ hi=>⟨hi.1,RB.put j.o hi.2 (by have:=G.o;omega)⟩
 case hCb=>exact λx X Y hx hb=>hx.live.ae λg hg=>⟨hg.1,hb.block g hg.2⟩
 case hCp=>exact λx X r r' _ hx=>hx.ae λg hg=>⟨hg,World.putObj_heap_other (by have:=G.o;omega)⟩
 case hIR=>exact λpre W hi=>hi.below.size
 case hAxp=>
  rintro x a' W r r' V ⟨bp,A',c',e1,e2,e4⟩;refine⟨bp,A',c',e1,(World.putObj_heap_other ?_).trans e2,e4⟩;rintro rfl;rw[V.loop]at e2;cases e2
 case assign=>
  rintro l0 x W K hC hK;obtain⟨A',c',e1,-,-,-⟩:=hC.form;obtain⟨x1,U⟩:=x;dsimp only at e1;subst e1;have HK:=Z_ hK;clear hK;unfold cn at HK⊢;gi_wp2;refine HK.o _ _ (B_.alloc L_ _) ⟨W,A',c',rfl,r_ _ _,rfl⟩
 case body=>
  rintro l0 pre ⟨x1,U⟩ a' W hi hC hlen ⟨bp,A',c',e1,a1,rfl⟩ ⟨rr,V⟩;dsimp only at e1 hC a1;subst e1;have b6:bp≠b2:=by
   rintro rfl;rw[hi.qF]at a1;simp at a1
  have cf:¬(b2=bp):=λh=>b6 h.symm
  obtain⟨c0,f0⟩:=jD hi.qF;obtain⟨z0,z1,z2,z3⟩:=aX a1;have cg:=hi.EB;have M:=Z_ hi;have HC:=Z_ hC;have ck:=Z_ V;have bo:=j.o.ne;obtain⟨c1,f1⟩:=jD hi.res;have ch:JK.fn 179:=trivial;have hz:=hi.size;have cl:=hi.below.size;obtain⟨W2,O⟩:=N_ (W.setCell ⟨b2,0,b_⟩ (.int d_ ((pre.length:Int)+1)));have I:x_ (W2.heap.size=W.heap.size):=Z_ (by rw[O];simp[Kd]);have a2:x_ (jq w W W2):=Z_ (by rw[O];exact jq.set hi.qF (by decide) j.o.l2);have ba:x_ (fj W0 W W2):=Z_ (by
   rw[O];exact kJ λk hk _=>fu (by have:=j.o.h2;have:=G.o;dsimp only;omega))
  have bt:x_ (W2.heap[b2]?=c_ (f_ #[.int d_ ((pre.length:Int)+1)] 3 (0,0))):=Z_ (by rw[O];exact m9 hi.qF);have bb:x_ (W2.heap[b1]?=c_ (f_ #[u_ o_] 4 (0,0))):=Z_ (by rw[O,fu bo];exact hi.res);have HF:=Z_ (Dg U _ W2 ((hC.ae (S':=(·<w.heap.size)) λg hg=>⟨hg,a2.o.below.block g hg⟩).sub λg hg=>by have:=I.o;omega));have bd:=Z_ O;clear hi hC V a1 O;unfold cn at HF⊢;rw[bd.o]at HF;obtain⟨q,hq⟩:=N_ (gV U);rw[<-hq]at HF;have HQ:=Z_ hq;clear hq;by_cases J:pre.length=300
  ·have g1:(300:Int)<(pre.length:Int)+1:=by omega
   have HO:=Z_ J;clear J;gi_wp2;rw[<-bd.o];refine⟨fj.t ba.o (kJ λk hk _=>fu (by have:=j.o.h1;have:=G.o;dsimp only;omega)),rfl,?_,.inl ?_,?_,?_⟩
   ·exact m9 bb.o
   ·have:=HO.o;rw[p_,Kt];omega
   ·exact(M.o.below.trans a2.o.below).setCell (p:=⟨b1,0,b_⟩) j.o.l1 _
   have h2:=I.o;have h3:=M.o.size;show w.heap.size+4<=(W2.heap.modify _ _).size;simp;omega
  have g1:¬(300:Int)<(pre.length:Int)+1:=by omega
  have HO:=Z_ J;clear J;cases q
  ·gi_wp2_with (gi_at_call 179;refine(CallsIn.inRound l0 (Kg.2 HF.o)).mono ?_;rintro e w3 ⟨rfl,D⟩;rw[<-bd.o]at D;have bj:=(D.block b1 (by have:=j.o.h1;have:=I.o;omega)).trans bb.o;obtain⟨c3,f3⟩:=jD bj;have cb:=Z_ bj;clear bj)
   refine⟨fj.t (fj.t ba.o (kJ λk _ hk=>D.block k hk)) (kJ λk hk _=>fu (by have:=j.o.h1;have:=G.o;dsimp only;omega)),rfl,?_,.inr ⟨_,Le _ (KV.2 rfl),HQ.o.symm⟩,?_,?_⟩
   ·exact m9 cb.o
   ·exact(M.o.below.trans (a2.o.below.trans (D.mono (by have:=I.o;omega)))).setCell (p:=⟨b1,0,b_⟩) j.o.l1 _
   have h1:=D.size;have h2:=I.o;have h3:=M.o.size;show w.heap.size+4<=(w3.heap.modify _ _).size;simp;omega
  gi_wp2_with (gi_at_call 179;refine(CallsIn.inRound l0 (Kg.2 HF.o)).mono ?_;rintro e w3 ⟨rfl,D⟩;rw[<-bd.o]at D)
  have bf:w.heap.size<=W2.heap.size:=by have:=I.o;omega
  refine⟨fj.t ba.o (kJ λk _ hk=>D.block k hk),a2.o.t (jq.of bf D),?_,?_,?_,?_,?_,?_⟩
  ·exact(D.block b1 (by have:=j.o.h1;have:=I.o;omega)).trans bb.o
  ·rw[p_,Kt]
   exact(D.block b2 (by have:=j.o.h2;have:=I.o;omega)).trans bt.o
  ·have:=HO.o;rw[p_,Kt];omega
  ·intro y hy
   rcases KI.1 hy with hy|hy
   ·exact M.o.fit y hy
   rw[KV.1 hy];exact HQ.o.symm
  ·exact M.o.below.trans (a2.o.below.trans (D.mono bf))
  have h1:=D.size;have h2:=I.o;omega
 case done=>
  rintro xs W bx hi hK;obtain⟨c1,f1⟩:=jD hi.res;have M:=Z_ hi;clear hi;gi_wp2;have hr:cJ T=true:=by
   unfold cJ;rw[Ku,decide_eq_true_iff,LH];have h1:=J7 LC bx;rw[KL,T.iP]at h1;refine⟨by have:=M.o.EB;omega,λy hy=>?_⟩;rw[<-bx]at hy;obtain⟨x,hx,rfl⟩:=Lr.1 hy;exact M.o.fit x hx
  rw[hr];refine vR (b:=b1) (by rfl) ?_ (m9 M.o.res) (M.o.below.setCell (p:=⟨b1,0,b_⟩) j.o.l1 _) (by have:=j.o.h1;have:=G.o;omega) (by have:=G.o;omega);rw[fu (by have:=j.o.h1;have:=G.o;dsimp only;omega)];exact hK
 rintro cd xs W ⟨rs,bB⟩ ⟨rfl,hi⟩ hK;have M:=Z_ hi;clear hi;gi_wp2;have hr:cJ T=false:=by
  unfold cJ;rw[Bool.and_eq_false_iff,Mr];rcases M.o.bad with h|⟨x,hx,hf⟩
  ·left
   have h1:=J7 LC bB;rw[T.iP,p_,KL]at h1;omega
  right;rw[List.all_eq_false];refine⟨x.2,?_,by rw[hf];simp⟩;rw[<-bB];exact Mg _ (Kw hx)
 rw[hr];exact vR (b:=b1) (by rfl) hK M.o.res M.o.below (by have:=j.o.h1;have:=G.o;omega) (by have:=G.o;omega)
