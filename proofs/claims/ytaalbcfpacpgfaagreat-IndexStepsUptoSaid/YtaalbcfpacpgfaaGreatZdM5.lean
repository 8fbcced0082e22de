import Derived.Deep.QuietTactic
import Derived.BigQuiet
import Derived.Deep.RegionWith
import Derived.Deep.DeepCutAuto
import Derived.BigRegion
import Derived.Test.YtaalbcfpacpgfaaGreatZdM3
set_option linter.all false
set_option maxHeartbeats 16000000
set_option maxRecDepth 100000
open Bool renaming false->o_,true->v_
open Go renaming Addr->Kb,Calls->H_,TypeId->Ki,Value->m_,World->j_,bytesBefore->Kk
open Go.Ending renaming returned->k_
open Go.IntKind renaming i64->d_
open Go.Lib renaming byteCells->l_
open Go.Obj renaming cells->f_
open Go.Op renaming bytesLess->K4
open Go.Proofs.Tryz renaming prog->h_
open Go.RowKit renaming Below->n_,Hid->x_
open Go.Value renaming agg->JI,int->e_,slice->a_,string->g_,tuple->J_
open Go.World renaming cell?->E_,frozen?->JW
open Option renaming none->b_,some->c_
namespace Go.Par
open Go.RowKit Go.Lib
structure CO(P:Program)(t e:Ki)(size bytes:Nat):Prop where
 CK:P.underlying t=c_ (.slice e)
 info:∃i z,P.info? e=c_ i/\i.zero=c_ z/\i.size=size/\i.bytes=bytes/\z.cells.size=size
 pos:0<size
theorem Da{P:Program}{t e:Ki}{z:m_}{size b:Nat}(j:P.underlying t=c_ (.slice e))(h:(P.info? e).map (λi=>(i.zero,i.size,i.bytes))=c_ (c_ z,size,b))(hp:0<size)(h1:z.cells.size=size):CO P t e size b:=by
 obtain⟨i,hi,h0,h2,D⟩:=info_parts h;exact⟨j,⟨i,z,hi,h0,h2,D,h1⟩,hp⟩
theorem eI{P:Program}(w:j_){ops:Array Oper}{rest:List Oper}{o:Oper}{a:Act}{Q:Exit->Act->j_->Prop}(I:o.guard=b_)(s x:Operand)(t:Ki)
  (V:o.op=.call {callee:=.builtin .append,args:=#[s,x],argTypes:=#[t,t]})
  (base:Nat) (e:Ki) (size bytes:Nat) (E:CO P t e size bytes) (v:m_) (n:Nat) (xs:List m_) (hs:a.eval s=v) (G:w.ownsRow base e size v n xs)
  (g:Nat) (news:List m_) (hx:a.eval x=a_ (c_ ⟨g,0,b_⟩) 1 1) (X:news.length=size) (J:∀j u,news[j]?=c_ u->w.cell? ⟨g,j,b_⟩=c_ u) (h1:∀u∈news,u.oneCell'=v_)
  (K:(n+1)*bytes<=140737488355328) (hn:n+1<=9223372036854775807) (D:base<=w)
  (h:∀v' w',w'.ownsRow base e size v' (n+1) (xs++news)->w.grownBy w' v.ownBlock->(v'.ownBlock=v.ownBlock\/v'.ownBlock=c_ w.heap.size)->wpList P ops Q rest (a.put o.dst v') w'):wpList P ops Q (o::rest) a w:=by
 obtain⟨i,z,hi,Y,M,O,U⟩:=E.info;obtain⟨v',w',hr,h2,Z,_,h5⟩:=MJ (P:=P) w base t o.type e i z size bytes E.CK hi Y M O U E.pos v n xs G ⟨g,0,b_⟩ 1 1 news O_ (λj u hj=>by rw[cS,Lp];exact J j u hj) h1 (by simp only[maxLen];omega) K D;refine wpList_plain I λ_ hK=>?_
 unfold Oper.wp execOp;simp only[V,resolve,invoke,builtin,MM,MC,LS,L9,Ks,Lf,hs,hx,hr];exact hK _ _ (h v' w' h2 Z h5)
end Go.Par
namespace Go.Proofs.YtaalbcfpacpgfaaGreat
open Go.RowKit Go.Lib Go.Vfs Go.Par
def vh(S:Nat->Prop)(w:j_)(f:af)(b off:Nat):Prop:=
 ∃v,w.cell? ⟨b,off,b_⟩=c_ (g_ ⟨f.name.toArray⟩)/\w.cell? ⟨b,off+1,b_⟩=c_ v/\w.cell? ⟨b,off+2,b_⟩=c_ (e_ d_ f.safe)/\a8 S w v (l_ f.data)
def aA(S:Nat->Prop)(w:j_)(v:m_)(fs:List af):Prop:=
 ∃A c,v=a_ A fs.length c/\fs.length<=c/\c<=9223372036854775807/\∀i (h:i<fs.length),∃b off,A=c_ ⟨b,off,b_⟩/\S b/\vh S w fs[i] b (off+i*3)
variable{S S':Nat->Prop}{w w' w2 wr W w3 W3 wa wb W':j_}{b n c k cu bx:Nat}{v u v' v2 dv u0 u1 u2:m_}{A Au:Option Kb}{s l:List UInt8}{xs:List m_}{pow:Int}{t:Ki}
theorem vh.ae{f:af}{off:Nat}(h:vh S w f b off)(D:S b)(j:∀b,S b->S' b/\w'.heap[b]?=w.heap[b]?):vh S' w' f b off:=by
 obtain⟨v,h1,h2,G,I⟩:=h;have e:∀o,w'.cell? ⟨b,o,b_⟩=w.cell? ⟨b,o,b_⟩:=λo=>D_ (a:=⟨b,o,b_⟩) (j b D).2
 exact⟨v,by rw[e];exact h1,by rw[e];exact h2,by rw[e];exact G,I.ae j⟩
theorem aA.ae{fs:List af}(h:aA S w v fs)(j:∀b,S b->S' b/\w'.heap[b]?=w.heap[b]?):aA S' w' v fs:=by
 obtain⟨A,c,h1,h2,G,I⟩:=h;refine⟨A,c,h1,h2,G,λi hi=>?_⟩;obtain⟨b,off,e,D,J⟩:=I i hi;exact⟨b,off,e,(j b D).1,J.ae D j⟩
theorem aA.nil(S:Nat->Prop)(w:j_):aA S w (a_ b_ 0 0) []:=⟨b_,0,rfl,by simp,by simp,λi hi=>by simp at hi⟩
theorem aA.form{fs:List af}(h:aA S w v fs):∃A c,v=a_ A fs.length c/\fs.length<=c/\c<=9223372036854775807:=by
 obtain⟨A,c,h1,h2,j,-⟩:=h;exact⟨A,c,h1,h2,j⟩
theorem aA.file{fs:List af}(h:aA S w (a_ A n c) fs)(i:Nat)(hi:i<fs.length):∃b off,A=c_ ⟨b,off,b_⟩/\S b/\vh S w fs[i] b (off+i*3):=by
 obtain⟨G,I,e,h2,J,j⟩:=h;injection e with D K M;subst D;exact j i hi
def fO(S:Nat->Prop)(w w':j_)(b:Nat):Prop:=S b\/(w.heap.size<=b/\b<w'.heap.size)
theorem aA.below{fs:List af}(h:aA S w v fs)(hS:∀b,S b->b<w.heap.size)(j:n_ w w w'):aA S w' v fs:=h.ae λb hs=>⟨hs,j.block b (hS b hs)⟩
theorem fO.lt(hS:∀b,S b->b<w.heap.size)(j:w.heap.size<=w'.heap.size):∀b,fO S w w' b->b<w'.heap.size:=by
 rintro b (h|h)
 ·have:=hS b h;omega
 exact h.2
theorem fO.mono{j:j_}(h2:j.heap.size<=w2.heap.size):∀b,fO S w j b->fO S w w2 b:=by
 rintro b (h|h)
 ·exact .inl h
 exact .inr ⟨h.1,by omega⟩
theorem aA.sub{fs:List af}(h:aA S w v fs)(hS:∀b,S b->S' b):aA S' w v fs:=h.ae λb j=>⟨hS b j,rfl⟩
def bQ(x:af×m_):List m_:=[g_ ⟨x.1.name.toArray⟩,x.2,e_ d_ x.1.safe]
theorem qU(ls:List (af×m_)):(ls.flatMap bQ).length=ls.length*3:=by
 induction ls with
 |nil=>rfl
 |cons a l j=>simp only[Me,p_,j,bQ,Jz,JP];omega
theorem mq:∀(ls:List (af×m_)) (i j:Nat) (h:i<ls.length) (hj:j<3),(ls.flatMap bQ)[i*3+j]?=(bQ ls[i])[j]?
 |[],i,j,h,hj=>by simp at h
 |a::l,0,j,h,hj=>by
  rw[Me,List.getElem?_append_left (by simp[bQ];omega)];simp
 |a::l,i+1,j,h,hj=>by
  rw[Me,List.getElem?_append_right (by simp[bQ];omega)];have:(i+1)*3+j - (bQ a).length=i*3+j:=by simp[bQ];omega
  rw[this,mq l i j (by simpa using h) hj];simp
theorem qV:CO h_ 31 109 3 48:=Da (z:=JI #[g_ ⟨#[]⟩,a_ b_ 0 0,e_ d_ 0]) Tryz.underlying31 K_ (by decide) rfl
structure Rw(w:j_)(S:Nat->Prop)(v:m_)(ls:List (af×m_))(wr:j_):Prop where
 below:n_ w.heap.size w wr
 own:wr.ownsRow w.heap.size 109 3 v ls.length (ls.flatMap bQ)
 data:∀x∈ls,a8 (λb=>fO S w wr b/\v.ownBlock≠c_ b) wr x.2 (l_ x.1.data)
theorem Rw.form{ls:List (af×m_)}(h:Rw w S v ls wr):∃A c,v=a_ A ls.length c:=by
 rcases h.own.2 with⟨rfl,h0⟩|⟨g,cap,cur,rfl,_⟩
 ·exact⟨b_,0,by rw[h0]⟩
 exact⟨_,cap,rfl⟩
theorem Rw.empty(j:n_ w w W)(hS:∀b,S b->b<w.heap.size):Rw w S (a_ (c_ ⟨W,0,b_⟩) 0 0) [] (W.alloc (f_ #[] 109)):=
 ⟨j.alloc j.size _,⟨rfl,.inr ⟨W,0,#[],rfl,j.size,r_ W _,Kh _,by simp[maxLen],by simp,by simp⟩⟩,λx hx=>by cases hx⟩
theorem Rw.go{ls:List (af×m_)}(h:Rw w S v ls wr)(hS:∀b,S b->b<w.heap.size)(j:n_ wr wr w2):Rw w S v ls w2:=by
 have D:=h.below.size;refine⟨h.below.trans (j.mono D),World.ownsRow.kept (row:=.none) h.own ⟨j.os,j.tape,j.output,j.size,λk I _=>j.block k I⟩ (by cases v.ownBlock<;>simp),λx hx=>?_⟩;exact(h.data x hx).ae λb ⟨G,J⟩=>⟨⟨fO.mono j.size b G,J⟩,j.block b (fO.lt hS D b G)⟩
theorem Rw.push{ls:List (af×m_)}(h:Rw w S v ls w2)(hS:∀b,S b->b<w.heap.size){f:af}
  (hu:a8 (λb=>fO S w w2 b/\v.ownBlock≠c_ b) w2 u (l_ f.data)) {v':m_} (D:w3.ownsRow w 109 3 v' (ls.length+1) (ls.flatMap bQ++bQ (f,u)))
  (G:w2.grownBy w3 v.ownBlock) (I:v'.ownBlock=v.ownBlock\/v'.ownBlock=c_ w2.heap.size):Rw w S v' (ls++[(f,u)]) w3:=by
 have M:=h.below.size;have V:∀g,v.ownBlock=c_ g->w.heap.size<=g/\g<w2.heap.size:=λg e=>Lm h.own g e
 have j:∀b,fO S w w2 b/\v.ownBlock≠c_ b->(fO S w w3 b/\v'.ownBlock≠c_ b)/\w3.heap[b]?=w2.heap[b]?:=λb ⟨O,U⟩=>by
  have J:=fO.lt hS M b O;refine⟨⟨fO.mono G.size b O,λe=>?_⟩,G.block b J (λe=>U e.symm)⟩;rcases I with K|K
  ·exact U (K.symm.trans e)
  rw[K]at e;cases e;omega
 refine⟨h.below.grown G M (λg e=>(V g e).1),?_,λx hx=>?_⟩
 ·have e:(ls++[(f,u)]).flatMap bQ=ls.flatMap bQ++bQ (f,u):=by simp
  rw[e,p_];exact D
 rcases KI.1 hx with hx|hx
 ·exact(h.data x hx).ae j
 simp at hx;subst hx;exact hu.ae j
theorem Rw.ref{ls:List (af×m_)}(h:Rw w S v ls wr):aA (fO S w wr) wr v (ls.map (·.1)):=by
 have V:=h.below.size;have M:∀g,v.ownBlock=c_ g->w.heap.size<=g/\g<wr.heap.size:=λg e=>Lm h.own g e
 rcases h.own.2 with⟨rfl,h0⟩|⟨g,cap,cur,rfl,X,Y,I,J,O,K⟩
 ·have:ls=[]:=JH h0
  subst this;exact aA.nil _ _
 refine⟨c_ ⟨g,0,b_⟩,cap,by simp,by simpa using I,by simpa[maxLen]using J,λi hi=>?_⟩;have D:i<ls.length:=by simpa using hi
 have hc:∀j,j<3->wr.cell? ⟨g,0+i*3+j,b_⟩=(bQ ls[i])[j]?:=λj hj=>by
  have Z:=qU ls;have G:i*3+j<(ls.flatMap bQ).length:=by omega
  have:=LB (g:=g) h.own rfl (i*3+j) _ (w_ G);rw[cS]at this;rw[<-mq ls i j D hj,w_ G,<-this]
  congr 2
  omega
 refine⟨g,0,rfl,.inr (M g rfl),ls[i].2,?_,?_,?_,?_⟩
 ·have:=hc 0 O_;simp[bQ]at this⊢;exact this
 ·have:=hc 1 O_;simp[bQ]at this⊢;exact this
 ·have:=hc 2 O_;simp[bQ]at this⊢;exact this
 have:=(h.data ls[i] (JB D)).ae (S':=fO S w wr) (w':=wr) λb U=>⟨U.1,rfl⟩
 simpa using this
theorem oQ:∀{fs:List af} {i:Nat} (h:i<fs.length),(∀j (hj:j<i),(fs[j]'O_).name≠s)->fs[i].name=s->aj af.name s fs=c_ fs[i]
 |[],i,h,_,_=>by simp at h
 |f::fs,0,h,_,h2=>by rw[ca,G_ (by simpa using h2)];simp
 |f::fs,i+1,h,h1,h2=>by
  have h0:=h1 0 O_;rw[ca,I_ (by simpa using h0)];have:=oQ (fs:=fs) (i:=i) (by simpa using h) (λj hj=>by have:=h1 (j+1) O_;simpa using this) (by simpa using h2);simpa using this
theorem De{fs:List af}(h:∀j (hj:j<fs.length),fs[j].name≠s):aj af.name s fs=none:=by
 unfold aj;rw[List.find?_eq_none];intro x hx;obtain⟨j,hj,rfl⟩:=J4 hx;simpa using h j hj
def FX(w:j_)(fs:List af)(s:List UInt8)(e:Ending)(w':j_):Prop:=
 n_ w.heap.size w w'/\((∃i,∃h:i<fs.length,e=k_ (e_ d_ (i:Nat))/\aj af.name s fs=c_ fs[i])\/(e=k_ (e_ d_ (-1))/\aj af.name s fs=b_))
theorem uI(pow:Int)(v:m_)(fs:List af)(S:Nat->Prop)(w:j_)(hS:∀b,S b->b<w.heap.size)(h:aA S w v fs)(s:List UInt8):
  H_ h_ 52 #[JI #[e_ d_ pow,v],g_ ⟨s.toArray⟩] w (FX w fs s):=by
 obtain⟨A,c,rfl,hc,hm⟩:=h.form;have D:=ah w (f_ #[e_ d_ pow,a_ A fs.length c] 33);have H:=Z_ (h.below hS D);clear h;have U:=Z_ D;clear D;go_enter Tryz.func52,Tryz.ntmps52;go_wp2
 go_loopw [5] (λi wr=>∃(k n:Nat),k<=fs.length/\i=e_ d_ k/\x_ (∀j (hj:j<k) (V:j<fs.length),fs[j].name≠s)/\wr=(w.alloc (f_ #[e_ d_ pow,a_ A fs.length c] 33)).drewN n) (λi _=>fs.length - (intOf i).toNat)
 case atStart=>exact⟨0,0,by omega,rfl,Z_ (λj hj=>by omega),rfl⟩
 obtain⟨k,n,hk,rfl,M,rfl⟩:=hrel;by_cases G:k<fs.length
 ·obtain⟨b,off,rfl,X,u,h0,h1,h2,Y⟩:=H.o.file k G
  have Z:b≠w.heap.size:=by have:=hS b X;omega
  obtain⟨K,I⟩:∃K,fs[k].name=K:=⟨_,rfl⟩;rw[I]at h0;have J:=Z_ I;clear h1 h2 Y I;by_cases he:K=s
  ·subst he
   go_wp2;go_ret;exact⟨below_drewN U.o _,.inl ⟨k,G,rfl,oQ G (λj hj=>M.o j hj O_) J.o⟩⟩
  have ad:(K==s)=false:=KN.2 he;go_wp2;go_roundw
  case rel=>exact⟨k+1,_,by omega,by go_num,Z_ (λj hj V=>by
   by_cases O:j<k
   ·exact M.o j O V
   have:j=k:=by omega
   subst this;rw[J.o];exact he),rfl⟩
  simp[intOf];omega
 go_wp2;go_ret;exact⟨below_drewN U.o _,.inr ⟨rfl,De λj hj=>M.o j O_ hj⟩⟩
theorem oB(s:ByteArray)(w:j_)(hs:s.size<=9223372036854775807):
  H_ h_ 91 #[g_ s] w λe w'=>e=k_ (.bool (bS s.data.toList))/\w'=w:=by
 have hlen:s.data.toList.length=s.size:=(Lib.size_eq s).symm;obtain⟨r,hr⟩:=N_ (bS s.data.toList);rw[<-hr];have U:=Z_ hr;clear hr;have X:=Z_ hlen;clear hlen;go_enter Tryz.func91,Tryz.ntmps91;go_wp2
 go_loop [3] (λi=>∃k:Nat,k<=s.size/\i=e_ d_ k/\x_ ((s.data.toList.take k).all okB=v_)) (λi=>s.size - (intOf i).toNat)
 case atStart=>exact⟨0,by omega,rfl,Z_ (by simp)⟩
 obtain⟨k,hk,rfl,Y⟩:=hrel;by_cases K:k<s.size
 ·have D:=vp s k K
  rw[Y.o,Lk]at D;have Z:=s[k].toNat_lt;cases j:okB s[k]with
  |true=>
   rw[j]at D;have J:=Z_ D;clear D Y;have G:=Kv j;clear j;rcases G with⟨h1,h2⟩|⟨h1,h2⟩|h1|h1
   ·have M:(97:Int)<=(s[k].toNat:Int):=by omega
    have O:(s[k].toNat:Int)<=122:=by omega
    go_wp2
    go_round
    case rel=>exact⟨k+1,by omega,by go_num,J⟩
    simp[intOf];omega
   ·have M:¬(97:Int)<=(s[k].toNat:Int):=by omega
    have O:(48:Int)<=(s[k].toNat:Int):=by omega
    have V:(s[k].toNat:Int)<=57:=by omega
    go_wp2
    go_round
    case rel=>exact⟨k+1,by omega,by go_num,J⟩
    simp[intOf];omega
   ·have M:¬(97:Int)<=(s[k].toNat:Int):=by omega
    have O:¬(48:Int)<=(s[k].toNat:Int):=by omega
    have V:((s[k].toNat:Int)==46)=true:=by simp;omega
    clear h1;go_wp2
    go_round
    case rel=>exact⟨k+1,by omega,by go_num,J⟩
    simp[intOf];omega
   have M:¬(97:Int)<=(s[k].toNat:Int):=by omega
   have O:¬(48:Int)<=(s[k].toNat:Int):=by omega
   have V:((s[k].toNat:Int)==46)=false:=by simp;omega
   have g3:((s[k].toNat:Int)==45)=true:=by simp;omega
   clear h1;go_wp2
   go_round
   case rel=>exact⟨k+1,by omega,by go_num,J⟩
   simp[intOf];omega
  |false=>
   have I:x_ (r=o_):=Z_ (by
    rw[U.o];unfold bS;have:s.data.toList.all okB=false:=by
     rw[List.all_eq_false];refine⟨s[k],?_,by rw[j];simp⟩;rw[AR s _ rfl k K,s_,w_ (by rw[X.o];exact K)];exact JB _
    rw[this,LA])
   have G:=Ls j;clear j D;have g5:((s[k].toNat:Int)==46)=false:=by simp;omega
   have g6:((s[k].toNat:Int)==45)=false:=by simp;omega
   rcases(show s[k].toNat<48\/(58<=s[k].toNat/\s[k].toNat<97)\/122<s[k].toNat by omega)with h|⟨h,h2⟩|h
   ·have M:¬(97:Int)<=(s[k].toNat:Int):=by omega
    have O:¬(48:Int)<=(s[k].toNat:Int):=by omega
    clear G;go_wp2;go_ret;exact⟨by first|(rw[I.o];rfl)|rw[I.o],rfl⟩
   ·have M:¬(97:Int)<=(s[k].toNat:Int):=by omega
    have O:(48:Int)<=(s[k].toNat:Int):=by omega
    have V:¬(s[k].toNat:Int)<=57:=by omega
    clear G;go_wp2;go_ret;exact⟨by first|(rw[I.o];rfl)|rw[I.o],rfl⟩
   have M:(97:Int)<=(s[k].toNat:Int):=by omega
   have O:¬(s[k].toNat:Int)<=122:=by omega
   have V:(48:Int)<=(s[k].toNat:Int):=by omega
   have g3:¬(s[k].toNat:Int)<=57:=by omega
   clear G;go_wp2;go_ret;exact⟨by first|(rw[I.o];rfl)|rw[I.o],rfl⟩
 have I:x_ (r=decide (1<=s.size/\s.size<=32)):=Z_ (by
  rw[U.o];unfold bS;have:=Y.o;rw[Kq (by rw[X.o];omega)]at this;rw[this,Bool.and_true,X.o])
 by_cases h1:(1:Int)<=(s.size:Int)
 ·by_cases h2:(s.size:Int)<=32
  ·go_wp2
   go_ret;refine⟨?_,rfl⟩;rw[I.o];apply jG;simp;omega
  go_wp2;go_ret;refine⟨?_,rfl⟩;rw[I.o];apply jG;simp;omega
 go_wp2;go_ret;refine⟨?_,rfl⟩;rw[I.o];apply jG;simp;omega
theorem fU(w:j_)(o j:Obj):n_ w w ((w.alloc o).alloc j):=(ah w o).alloc (by simp) _
def ye(fs:List af)(s:List UInt8)(must:Bool):Int:=if bS s then(if must&&(aj af.name s fs).isNone then 11 else 0)else 10
theorem fZ(pow:Int)(v:m_)(fs:List af)(S:Nat->Prop)(w:j_)(hS:∀b,S b->b<w.heap.size)(h:aA S w v fs)(s:List UInt8)(hs:s.length<=9223372036854775807)(j:Bool):
  H_ h_ 50 #[JI #[e_ d_ pow,v],g_ ⟨s.toArray⟩,.bool j] w λe w'=>e=k_ (e_ d_ (ye fs s j))/\n_ w w w':=by
 obtain⟨A,c,rfl,hc,hm⟩:=h.form;have G:=ah w (f_ #[e_ d_ pow,a_ A fs.length c] 33);have H:=Z_ (h.below hS G);clear h;have I:=Z_ G;clear G;have V:(⟨s.toArray⟩:ByteArray).size<=9223372036854775807:=hs;go_enter Tryz.func50,Tryz.ntmps50;go_wp2_with fail;refine(oB ⟨s.toArray⟩ _ V).mono ?_;rintro e w' ⟨rfl,rfl⟩;rw[show(⟨s.toArray⟩:ByteArray).data.toList=s by simp];cases hn:bS s with
 |false=>
  have hr:ye fs s j=10:=by unfold ye;rw[hn];rfl
  have K:=Z_ hr;clear hr hn;go_wp2;go_ret;exact⟨by rw[K.o];rfl,I.o⟩
 |true=>
  cases j with
  |false=>
   have hr:ye fs s o_=0:=by unfold ye;rw[hn];rfl
   have K:=Z_ hr;clear hr hn;go_wp2;go_ret;exact⟨by rw[K.o];rfl,I.o⟩
  |true=>
   have hr:ye fs s v_=if(aj af.name s fs).isNone then 11 else 0:=by unfold ye;rw[hn];rfl
   have K:=Z_ hr;have O:=Z_ (λb X=>Kc (hS b X) I.o.size);clear hr hn;go_wp2_with fail;refine(uI pow _ fs S _ O.o H.o s).mono ?_;rintro e w2 ⟨D,⟨i,hi,rfl,M⟩|⟨rfl,M⟩⟩
   ·have J:=Z_ (I.o.trans (D.mono I.o.size));have U:=Z_ M;clear D M
    go_wp2;go_ret;exact⟨by rw[K.o,U.o];rfl,J.o⟩
   have J:=Z_ (I.o.trans (D.mono I.o.size));have U:=Z_ M;clear D M;go_wp2;go_ret;exact⟨by rw[K.o,U.o];rfl,J.o⟩
theorem jF(pow:Int)(hp:pow<=9223372036854775807)(A:Option Kb)(n c:Nat)(w:j_):
  H_ h_ 51 #[JI #[e_ d_ pow,a_ A n c]] w λe w'=>e=k_ (J_ #[JI #[e_ d_ (dec pow),a_ A n c],e_ d_ (if pow=0 then 13 else 0)])/\n_ w w w':=by
 rcases Int.lt_trichotomy pow 0 with h|h|h
 ·have h1:dec pow=pow:=by unfold dec;rw[I_ O_]
  rw[h1,I_ O_];clear h1;go_enter Tryz.func51,Tryz.ntmps51;go_wp2;refine C_ (v:=J_ #[JI #[e_ d_ pow,a_ A n c],e_ d_ 0]) (by simp[results,Tryz.results51,go_sem]) rfl ⟨rfl,?_⟩;exact fU w _ _
 ·subst h
  rw[G_ rfl,show dec 0=0 from rfl];go_enter Tryz.func51,Tryz.ntmps51;go_wp2;refine C_ (v:=J_ #[JI #[e_ d_ 0,a_ A n c],e_ d_ 13]) (by simp[results,Tryz.results51,go_sem]) rfl ⟨rfl,?_⟩;exact fU w _ _
 have h1:dec pow=pow - 1:=by unfold dec;rw[G_ O_]
 rw[h1,I_ O_];clear h1;go_enter Tryz.func51,Tryz.ntmps51;go_wp2;refine C_ (v:=J_ #[JI #[e_ d_ (pow - 1),a_ A n c],e_ d_ 0]) (by simp[results,Tryz.results51,go_sem]) rfl ⟨rfl,?_⟩;exact fU w _ _
theorem qO(s:List UInt8)(l:List af)(f:af):an af.name s (l++[f])=if f.name=s then an af.name s l else an af.name s l++[f]:=by
 unfold an;rw[List.filter_append];split
 ·rename_i h;simp[h]
 rename_i h;simp[h]
theorem fo(f:af)(A:Option Kb)(n c:Nat):∀u∈bQ (f,a_ A n c),u.oneCell'=true:=by
 intro u hu;simp[bQ]at hu;rcases hu with rfl|rfl|rfl<;>rfl
theorem a8.isSlice(h:a8 S w u xs):∃A n c,u=a_ A n c:=by
 obtain⟨A,c,h,-⟩:=h;exact⟨A,_,c,h⟩
theorem gh(w:j_)(f:af)(u:m_)(t:Ki):∀j x,(bQ (f,u))[j]?=c_ x->(w.alloc (f_ #[g_ ⟨f.name.toArray⟩,u,e_ d_ f.safe] t)).cell? ⟨w,j,b_⟩=c_ x:=by
 intro j x h;rw[World.cell?_alloc_mark];simpa[bQ]using h
theorem Rw.nT{ls:List (af×m_)}(h:Rw w S v ls wr)(hS:∀b,S b->b<w.heap.size){f:af}(hu:a8 S wr u (l_ f.data))(o:Obj)
  (j:w3.ownsRow w 109 3 v' (ls.length+1) (ls.flatMap bQ++bQ (f,u))) (I:(wr.alloc o).grownBy w3 v.ownBlock) (D:v'.ownBlock=v.ownBlock\/v'.ownBlock=c_ (wr.heap.size+1)):Rw w S v' (ls++[(f,u)]) w3:=by
 have J:=h.below.size;refine(h.go hS (ah wr o)).push hS (f:=f) (u:=u) (hu.ae λb G=>⟨⟨.inl G,λe=>?_⟩,(ah wr o).block b (by have:=hS b G;omega)⟩) j I (by simpa using D);have h1:=(Lm h.own b e).1;have h2:=hS b G;omega
abbrev Zz (w:j_) (pow:Int) (A:Option Kb) (n c:Nat):j_:=(w.alloc (f_ #[e_ d_ pow,a_ A n c] 33)).alloc (f_ #[e_ d_ 0,a_ b_ 0 0] 33)
theorem dg(w:j_)(pow:Int)(A:Option Kb)(n c:Nat):(Zz w pow A n c).heap.size=w.heap.size+2:=by simp[Zz]
theorem kC(w:j_)(pow:Int)(A:Option Kb)(n c:Nat):n_ w w (Zz w pow A n c):=fU w _ _
theorem zG(w:j_)(pow:Int)(A:Option Kb)(n c:Nat):(Zz w pow A n c).heap[w.heap.size]?=c_ (f_ #[e_ d_ pow,a_ A n c] 33 (0,0)):=by
 show((w.alloc _).alloc _).heap[w.heap.size]?=_;rw[z_ _ _ _ (by simp)];exact r_ w _
theorem zI(w:j_)(pow:Int)(A:Option Kb)(n c:Nat):(Zz w pow A n c).heap[w.heap.size+1]?=c_ (f_ #[e_ d_ 0,a_ b_ 0 0] 33 (0,0)):=by
 have:=r_ (w.alloc (f_ #[e_ d_ pow,a_ A n c] 33)) (f_ #[e_ d_ 0,a_ b_ 0 0] 33);simpa using this
theorem I8{ls:List (af×m_)}(hS:∀b,S b->b<w.heap.size)(h:Rw (Zz w pow A n c) S u ls wr)(G:Kept (λb=>b=w.heap.size\/b=w.heap.size+1) wr w'):
  aA (fO S w w') w' u (ls.map (·.1))/\n_ w w w':=by
 have J:=dg w pow A n c;have I:=h.below.size;have D:n_ w w wr:=(kC w pow A n c).trans (h.below.mono O_);refine⟨h.ref.ae λb j=>⟨?_,?_⟩,D.trans (G.below D.size (λk K=>by omega))⟩
 ·rcases j with j|j
  ·exact .inl j
  exact .inr ⟨by omega,Kc j.2 G.size⟩
 rcases j with j|j
 ·have:=hS b j;exact G.block b O_ O_
 exact G.block b j.2 O_
theorem vw(j:n_ (Zz w pow A n c).heap.size (Zz w pow A n c) wr):
  wr.cell? ⟨w,0,b_⟩=c_ (e_ d_ pow)/\wr.cell? ⟨w,1,b_⟩=c_ (a_ A n c)/\wr.frozen? ⟨w,0,b_⟩=o_/\wr.frozen? ⟨w,1,b_⟩=o_/\
  wr.cell? ⟨w+1,0,b_⟩=c_ (e_ d_ 0)/\wr.cell? ⟨w+1,1,b_⟩=c_ (a_ b_ 0 0)/\wr.frozen? ⟨w+1,0,b_⟩=o_/\wr.frozen? ⟨w+1,1,b_⟩=false:=by
 have D:=dg w pow A n c;have h0:=(j.block w O_).trans (zG w pow A n c);have h1:=(j.block (w+1) O_).trans (zI w pow A n c);simp[E_,JW,h0,h1]
theorem aA.there{fs:List af}(h:aA S w (a_ A n c) fs)(hS:∀b,S b->b<w.heap.size)(I:n_ w w wr)(k:Nat)(J:k<fs.length):
  ∃b off Au j cu,A=c_ ⟨b,off,b_⟩/\b<w.heap.size/\wr.cell? ⟨b,off+k*3,b_⟩=c_ (g_ ⟨fs[k].name.toArray⟩)/\wr.cell? ⟨b,off+k*3+1,b_⟩=c_ (a_ Au j cu)/\wr.cell? ⟨b,off+k*3+2,b_⟩=c_ (e_ d_ fs[k].safe)/\a8 S wr (a_ Au j cu) (l_ fs[k].data):=by
 obtain⟨b,off,rfl,D,u,K,M,O,G⟩:=(h.below hS I).file k J;obtain⟨Au,j,cu,rfl⟩:=a8.isSlice G;exact⟨b,off,Au,j,cu,rfl,hS b D,K,M,O,G⟩
theorem j9(pow:Int)(v:m_)(fs:List af)(S:Nat->Prop)(w:j_)(hS:∀b,S b->b<w.heap.size)(h:aA S w v fs)(s:List UInt8)(hl:fs.length<=1000000):
  H_ h_ 92 #[JI #[e_ d_ pow,v],g_ ⟨s.toArray⟩] w λe w'=>∃v',e=k_ (JI #[e_ d_ pow,v'])/\aA (fO S w w') w' v' (an af.name s fs)/\n_ w w w':=by
 obtain⟨A,c,rfl,hc,hm⟩:=h.form;have H:=Z_ h;clear h;have U:∀b,S b->b<(Zz w pow A fs.length c).heap.size:=λb hb=>by have:=hS b hb;rw[dg];omega
 have r0:=Rw.empty (S:=S) (JG _ (Zz w pow A fs.length c)) U;rw[dg]at r0;have R0:=Z_ r0;clear r0;have HS:=Z_ hS;have X:=Z_ U;clear hS U;go_enter Tryz.func92,Tryz.ntmps92;go_wp2
 go_loopw [5,6] (λu i wr=>∃(k:Nat) (ls:List (af×m_)),k<=fs.length/\i=e_ d_ k/\x_ (Rw (Zz w pow A fs.length c) S u ls wr)/\x_ (ls.map (·.1)=an af.name s (fs.take k))/\ls.length<=k) (λ_ i _=>fs.length - (intOf i).toNat)
 case atStart=>exact⟨0,[],by omega,rfl,R0,Z_ rfl,by simp⟩
 obtain⟨k,ls,hk,rfl,K,HE,bj⟩:=hrel;obtain⟨x0,x1,x2,x3,x4,x5,x6,x7⟩:=vw K.o.below;obtain⟨Ax,cx,V⟩:=K.o.form;subst V;have I:n_ w w wr:=(kC w pow A fs.length c).trans (K.o.below.mono (by rw[dg];omega));have a2:=Z_ I;by_cases Y:k<fs.length
 ·obtain⟨b,off,Au,nu,cu,rfl,hb,g0,g1,g2,g3⟩:=H.o.there HS.o I k Y
  have ba:=Z_ g3;have Z:=y_ Y;have ad:=Z_ Z;clear g3 Z I;generalize fs[k]=f at*;obtain⟨nm,data,safe⟩:=f;simp only at g0 g2;by_cases he:nm=s
  ·subst he
   go_wp2;go_roundw
   case rel=>exact⟨k+1,ls,by omega,by go_num,K,Z_ (by rw[ad.o,qO,G_ rfl];exact HE.o),by omega⟩
   simp[intOf];omega
  have bb:(nm==s)=false:=KN.2 he;have bk:(!nm==s)=true:=by rw[bb];rfl
  have ak:=K.o.go X.o (ah wr (f_ #[g_ ⟨nm.toArray⟩,a_ Au nu cu,e_ d_ safe] 109));have M:=ak.own;have D:=gh wr ⟨nm,data,safe⟩ (a_ Au nu cu) 109;clear ak;have bd:=Z_ he;clear he;have bm:=a2.o.size;go_wp2_with (at_builtin;refine eI _ rfl _ _ _ rfl (Zz w pow _ fs.length c).heap.size 109 3 48 qV _ _ _ rfl M wr _ rfl ?c0 D (fo _ _ _ _) ?c1 ?c2 ?c3 ?_)
  case c0=>rfl
  case c1=>omega
  case c2=>omega
  case c3=>have:=K.o.below.size;simp at this⊢;omega
  intro v3 w3 G av O;have j:=K.o.nT X.o (f:=⟨nm,data,safe⟩) ba.o _ (by rw[dg];exact G) av O;have bf:=Z_ j;obtain⟨A3,c3,J⟩:=j.form;clear j G av O M D;subst J;go_wp2;go_roundw
  case rel=>exact⟨k+1,_,by omega,by go_num,bf,Z_ (by rw[ad.o,qO,I_ bd.o,Lb,HE.o];rfl),by simp;omega⟩
  simp[intOf];omega
 have a1:k=fs.length:=by omega
 have bg:=Z_ a1;clear a1 I;go_wp2;refine C_ (v:=JI #[e_ d_ pow,a_ Ax ls.length cx]) (by simp[results,Tryz.results92,go_sem,x0,x1,x2,x3,x4,x5,x6,x7]) rfl ⟨_,rfl,?_⟩;have:=I8 HS.o K.o ((((Kept.refl _ wr).setCell (p:=⟨w,1,b_⟩) (.inl (.inl rfl)) (a_ Ax ls.length cx)).setCell (p:=⟨w+1,0,b_⟩) (.inl (.inr rfl)) (e_ d_ pow)).setCell (p:=⟨w+1,1,b_⟩) (.inl (.inr rfl)) (a_ Ax ls.length cx));rw[HE.o,bg.o,JO]at this;exact this
abbrev qg (w:j_) (pow:Int) (A:Option Kb) (n c:Nat) (x:af) (dv:m_):j_:=
 ((w.alloc (f_ #[e_ d_ pow,a_ A n c] 33)).alloc (f_ #[g_ ⟨x.name.toArray⟩,dv,e_ d_ x.safe] 109)).alloc (f_ #[e_ d_ 0,a_ b_ 0 0] 33)
theorem nU(w:j_)(pow:Int)(A:Option Kb)(n c:Nat)(x:af)(dv:m_):(qg w pow A n c x dv).heap.size=w.heap.size+3:=by simp[qg]
theorem qz(w:j_)(pow:Int)(A:Option Kb)(n c:Nat)(x:af)(dv:m_):n_ w w (qg w pow A n c x dv):=(fU w _ _).alloc (by simp;omega) _
theorem sS(w:j_)(pow:Int)(A:Option Kb)(n c:Nat)(x:af)(dv:m_):(qg w pow A n c x dv).heap[w.heap.size]?=c_ (f_ #[e_ d_ pow,a_ A n c] 33 (0,0))/\
  (qg w pow A n c x dv).heap[w.heap.size+1]?=c_ (f_ #[g_ ⟨x.name.toArray⟩,dv,e_ d_ x.safe] 109 (0,0))/\(qg w pow A n c x dv).heap[w.heap.size+2]?=c_ (f_ #[e_ d_ 0,a_ b_ 0 0] 33 (0,0)):=by
 refine⟨?_,?_,?_⟩
 ·show(((w.alloc _).alloc _).alloc _).heap[w.heap.size]?=_
  rw[z_ _ _ _ (by simp;omega),z_ _ _ _ (by simp)];exact r_ w _
 ·show(((w.alloc _).alloc _).alloc _).heap[w.heap.size+1]?=_
  rw[z_ _ _ _ (by simp)];have:=r_ (w.alloc (f_ #[e_ d_ pow,a_ A n c] 33)) (f_ #[g_ ⟨x.name.toArray⟩,dv,e_ d_ x.safe] 109);simpa using this
 have:=r_ ((w.alloc (f_ #[e_ d_ pow,a_ A n c] 33)).alloc (f_ #[g_ ⟨x.name.toArray⟩,dv,e_ d_ x.safe] 109)) (f_ #[e_ d_ 0,a_ b_ 0 0] 33);simpa using this
structure qu(w:j_)(S:Nat->Prop)(pow:Int)(v2:m_)(x:af)(dv:m_)(gs:List af)(W3:j_):Prop where
 below:n_ w.heap.size w W3
 size:w.heap.size+3<=W3.heap.size
 h0:W3.heap[w.heap.size]?=c_ (f_ #[e_ d_ pow,v2] 33 (0,0))
 h1:W3.heap[w.heap.size+1]?=c_ (f_ #[g_ ⟨x.name.toArray⟩,dv,e_ d_ x.safe] 109 (0,0))
 h2:W3.heap[w.heap.size+2]?=c_ (f_ #[e_ d_ 0,a_ b_ 0 0] 33 (0,0))
 ref:aA (λb=>S b\/(w.heap.size+3<=b/\b<W3.heap.size)) W3 v2 gs
theorem qu.mk'(hS:∀b,S b->b<w.heap.size){x:af}{gs:List af}
  (D:n_ (qg w pow A n c x dv).heap.size (qg w pow A n c x dv) w2) (hr:aA (fO S (qg w pow A n c x dv) w2) w2 v2 gs):qu w S pow v2 x dv gs ((w2.setCell ⟨w,0,b_⟩ (e_ d_ pow)).setCell ⟨w,1,b_⟩ v2):=by
 have Z:=nU w pow A n c x dv;have J:=D.size;obtain⟨K,M,O⟩:=sS w pow A n c x dv;have U:=(D.block w O_).trans K;have V:=(D.block (w+1) O_).trans M;have X:=(D.block (w+2) O_).trans O;have j:Kept (λb=>b=w.heap.size) w2 ((w2.setCell ⟨w,0,b_⟩ (e_ d_ pow)).setCell ⟨w,1,b_⟩ v2):=((Kept.refl (λb=>b=w.heap.size) w2).setCell (p:=⟨w,0,b_⟩) (.inl rfl) _).setCell (p:=⟨w,1,b_⟩) (.inl rfl) _;have G:n_ w w w2:=(qz w pow A n c x dv).trans (D.mono O_);have Y:=j.size;refine⟨G.trans (j.below G.size (λk hk=>by omega)),by omega,?_,(j.block _ O_ O_).trans V,(j.block _ O_ O_).trans X,hr.ae λb I=>?_⟩
 ·have e:=eS (x:=e_ d_ pow) U
  exact dP (x:=v2) e
 rcases I with h|h
 ·have:=hS b h;exact⟨.inl h,j.block b O_ O_⟩
 exact⟨.inr ⟨by omega,by omega⟩,j.block b h.2 O_⟩
theorem qu.cells{x:af}{gs:List af}(h:qu w S pow v2 x dv gs W3)(j:n_ W3 W3 wr):
  (wr.cell? ⟨w,0,b_⟩=c_ (e_ d_ pow)/\wr.cell? ⟨w,1,b_⟩=c_ v2/\wr.frozen? ⟨w,0,b_⟩=o_/\wr.frozen? ⟨w,1,b_⟩=o_)/\
  (wr.cell? ⟨w+1,0,b_⟩=c_ (g_ ⟨x.name.toArray⟩)/\wr.cell? ⟨w+1,1,b_⟩=c_ dv/\wr.cell? ⟨w+1,2,b_⟩=c_ (e_ d_ x.safe))/\
  wr.cell? ⟨w+2,0,b_⟩=c_ (e_ d_ 0)/\wr.cell? ⟨w+2,1,b_⟩=c_ (a_ b_ 0 0)/\wr.frozen? ⟨w+2,0,b_⟩=o_/\wr.frozen? ⟨w+2,1,b_⟩=false:=by
 have D:=h.size;have h0:=(j.block w O_).trans h.h0;have h1:=(j.block (w+1) O_).trans h.h1;have h2:=(j.block (w+2) O_).trans h.h2;simp[E_,JW,h0,h1,h2]
theorem qu.fin{x:af}{gs:List af}{ls:List (af×m_)}(hS:∀b,S b->b<w.heap.size)(h:qu w S pow v2 x dv gs W3)
  (hr:Rw W3 (λb=>S b\/(w.heap.size+3<=b/\b<W3.heap.size)) u ls wr) (D:Kept (λb=>b=w.heap.size\/b=w.heap.size+2) wr w'):aA (fO S w w') w' u (ls.map (·.1))/\n_ w w w':=by
 have K:=h.size;have I:=hr.below.size;have J:=D.size;have G:n_ w w wr:=h.below.trans (hr.below.mono O_);refine⟨hr.ref.ae λb j=>?_,G.trans (D.below G.size (λk M=>by omega))⟩;rcases j with(j|j)|j
 ·have:=hS b j;exact⟨.inl j,D.block b O_ O_⟩
 ·exact⟨.inr ⟨by omega,by omega⟩,D.block b O_ O_⟩
 exact⟨.inr ⟨by omega,by omega⟩,D.block b O_ O_⟩
theorem kK:∀a b:List UInt8,K4 a b=Kk a b
 |[],[]=>rfl
 |_::_,[]=>rfl
 |[],_::_=>rfl
 |a::x,b::y=>by simp only[K4,Kk,kK x y]
theorem CA{ls j:List (af×m_)}(h:Rw W3 S v ls wa)(G:Rw W3 S v' j wb)(D:b<W3)(o:Nat):wb.cell? ⟨b,o,b_⟩=wa.cell? ⟨b,o,b_⟩:=
 (G.below.cell (p:=⟨b,o,b_⟩) D).trans (h.below.cell (p:=⟨b,o,b_⟩) D).symm
theorem Eu(hS:∀b,S b->b<W3.heap.size){ls j:List (af×m_)}(h:Rw W3 S v ls wa)(G:Rw W3 S v' j wb)(hs:a8 S wa u xs):a8 S wb u xs:=
 hs.ae λb D=>⟨D,(G.below.block b (hS b D)).trans (h.below.block b (hS b D)).symm⟩
def il(x:af)(gs:List af)(k:Nat)(put:Bool)(acc:List af):Prop:=acc++(if put then gs.drop k else dm af.name x (gs.drop k))=dm af.name x gs
theorem il.zero(x:af)(gs:List af):il x gs 0 o_ []:=by simp[il]
theorem il.gu{x:af}{gs:List af}{acc:List af}(h:il x gs k v_ acc)(j:k<gs.length):il x gs (k+1) v_ (acc++[gs[k]]):=by
 unfold il at*;rw[<-h,KA j];simp
theorem il.now{x:af}{gs:List af}{acc:List af}(h:il x gs k o_ acc)(j:k<gs.length)(D:Kk x.name gs[k].name=v_):il x gs (k+1) v_ (acc++[x]++[gs[k]]):=by
 unfold il at*;rw[<-h,KA j];simp[dm,D]
theorem il.later{x:af}{gs:List af}{acc:List af}(h:il x gs k o_ acc)(j:k<gs.length)(D:Kk x.name gs[k].name=o_):il x gs (k+1) o_ (acc++[gs[k]]):=by
 unfold il at*;rw[<-h,KA j];simp[dm,D]
theorem il.done{x:af}{gs acc:List af}(h:il x gs gs.length v_ acc):acc=dm af.name x gs:=by
 unfold il at h;simpa using h
theorem il.last{x:af}{gs acc:List af}(h:il x gs gs.length o_ acc):acc++[x]=dm af.name x gs:=by
 unfold il at h;simpa[dm]using h
theorem tx(pow:Int)(v:m_)(fs:List af)(S:Nat->Prop)(w:j_)(hS:∀b,S b->b<w.heap.size)(h:aA S w v fs)(x:af)(dv:m_)(hd:a8 S w dv (l_ x.data))(hl:fs.length<=900000):
  H_ h_ 53 #[JI #[e_ d_ pow,v],JI #[g_ ⟨x.name.toArray⟩,dv,e_ d_ x.safe]] w λe w'=>∃v',e=k_ (JI #[e_ d_ pow,v'])/\aA (fO S w w') w' v' (aq af.name x fs)/\n_ w w w':=by
 obtain⟨A,c,rfl,hc,hm⟩:=h.form;obtain⟨Ad,nd,cd,rfl⟩:=a8.isSlice hd;have bR:∀b,S b->b<(qg w pow A fs.length c x (a_ Ad nd cd)).heap.size:=λb hb=>by have:=hS b hb;rw[nU];omega
 have b0:=j9 pow _ fs S (qg w pow A fs.length c x (a_ Ad nd cd)) bR (h.below hS (qz w pow A fs.length c x _)) x.name O_;have ct:(an af.name x.name fs).length<=fs.length:=KX _ _;have b1:aq af.name x fs=dm af.name x (an af.name x.name fs):=rfl;have b2:=Z_ b1;generalize an af.name x.name fs=gs at*;have b3:=Z_ b0;clear b0;have HD:=Z_ hd;clear hd h;have HS:=Z_ hS;clear hS bR b1;obtain⟨nm,data,safe⟩:=x;simp only at*;go_enter Tryz.func53,Tryz.ntmps53;go_wp2_with fail;refine b3.o.mono ?_;rintro e w2 ⟨v2,rfl,bk,bm⟩;have b5:=qu.mk' HS.o bm bk;obtain⟨A2,c2,rfl,cv,cB⟩:=bk.form;have HI:=Z_ b5;have hk:=sS w pow A fs.length c ⟨nm,data,safe⟩ (a_ Ad nd cd);have ch:=nU w pow A fs.length c ⟨nm,data,safe⟩ (a_ Ad nd cd);have k0:=(bm.block w O_).trans hk.1;have z0:w2.cell? ⟨w,0,b_⟩=c_ (e_ d_ pow):=by simp[E_,k0]
 have z1:w2.cell? ⟨w,1,b_⟩=c_ (a_ A fs.length c):=by simp[E_,k0]
 have z2:w2.frozen? ⟨w,0,b_⟩=false:=by simp[JW,k0]
 have z3:w2.frozen? ⟨w,1,b_⟩=false:=by simp[JW,k0]
 clear b5 bk bm b3 hk ch k0;go_wp2;obtain⟨W3,bn⟩:=N_ ((w2.setCell ⟨w,0,b_⟩ (e_ d_ pow)).setCell ⟨w,1,b_⟩ (a_ A2 gs.length c2));have bo:w2.heap.size=W3.heap.size:=by rw[bn];simp
 rw[<-bn]at HI⊢;rw[bo];clear z0 z1 z2 z3 bn bo;have bp:∀b,(S b\/(w.heap.size+3<=b/\b<W3.heap.size))->b<W3.heap.size:=λb hb=>by
  have:=HI.o.size;rcases hb with h|h
  ·have:=HS.o b h;omega
  exact h.2
 have R0:=Z_ (Rw.empty (S:=λb=>S b\/(w.heap.size+3<=b/\b<W3.heap.size)) (JG _ W3) bp);have U:=Z_ bp;clear bp
 go_loopw [5,6,7] (λu pt i wr=>∃(k:Nat) (put:Bool) (ls:List (af×m_)),k<=gs.length/\i=e_ d_ k/\pt=.bool put/\x_ (Rw W3 (λb=>S b\/(w.heap.size+3<=b/\b<W3.heap.size)) u ls wr)/\x_ (il ⟨nm,data,safe⟩ gs k put (ls.map (·.1)))/\ls.length<=2*k) (λ_ _ i _=>gs.length - (intOf i).toNat)
 case atStart=>exact⟨0,o_,[],by omega,rfl,rfl,R0,Z_ (il.zero _ _),by simp⟩
 obtain⟨k,put,ls,hk,rfl,rfl,HR,HP,cE⟩:=hrel;obtain⟨⟨x0,x1,x2,x3⟩,⟨X,y1,Y⟩,x4,x5,x6,x7⟩:=HI.o.cells HR.o.below;simp only at X Y;obtain⟨Ax,cx,bt⟩:=HR.o.form;subst bt;have cF:=HR.o.below.size;have bo:=HI.o.size;have hD:a8 (λb=>S b\/(w.heap.size+3<=b/\b<W3.heap.size)) wr (a_ Ad nd cd) (l_ data):=HD.o.ae λb hb=>⟨.inl hb,by
  have:=HS.o b hb;rw[HR.o.below.block b O_,HI.o.below.block b this]⟩
 have a1:=Z_ hD;clear hD;by_cases M:k<gs.length
 ·obtain⟨b,off,Au,nu,cu,rfl,hb,g0,g1,g2,g3⟩:=HI.o.ref.there U.o HR.o.below k M
  have ad:=Z_ g3;clear g3;obtain⟨f,hf⟩:∃f,gs[k]=f:=⟨_,rfl⟩;rw[hf]at g0 g2 ad;have HF:=Z_ hf;clear hf;obtain⟨nf,df,sf⟩:=f;simp only at g0 g2 ad;cases put with
  |true=>
   go_wp2_with fail
   go_quiet (fail)
   have O:=Z_ (HR.o.go U.o (below_drewN (JG _ wr) nq));have bb:x_ (a8 (λb=>S b\/(w.heap.size+3<=b/\b<W3.heap.size)) (wr.drewN nq) (a_ Au nu cu) (l_ df)):=ad;have bB:x_ (a8 (λb=>S b\/(w.heap.size+3<=b/\b<W3.heap.size)) (wr.drewN nq) (a_ Ad nd cd) (l_ data)):=a1;have ak:x_ (∀o,(wr.drewN nq).cell? ⟨b,o,b_⟩=wr.cell? ⟨b,o,b_⟩):=Z_ (λo=>rfl);clear HR ad a1 x0 x1 x2 x3 x4 x5 x6 x7 X y1 Y;rw[<-ak.o]at g0 g1 g2;clear ak;generalize wr.drewN nq=wq at*;obtain⟨⟨x0,x1,x2,x3⟩,⟨X,y1,Y⟩,x4,x5,x6,x7⟩:=HI.o.cells O.o.below;simp only at X Y;have Z:=O.o.below.size;have J:=(O.o.go U.o (ah wq (f_ #[g_ ⟨nf.toArray⟩,a_ Au nu cu,e_ d_ sf] 109))).own;have D:=gh wq ⟨nf,df,sf⟩ (a_ Au nu cu) 109;go_wp2_with (at_builtin;refine eI _ rfl _ _ _ rfl W3 109 3 48 qV _ _ _ rfl J wq _ rfl ?c0 D (fo _ _ _ _) ?c1 ?c2 ?c3 ?_)
   case c0=>rfl
   case c1=>first|omega|(simp;omega)
   case c2=>first|omega|(simp;omega)
   case c3=>first|omega|(simp;omega)
   intro v3 w3 G V K;have j:=O.o.nT U.o (f:=⟨nf,df,sf⟩) bb.o _ G V K;obtain⟨lt,M⟩:∃l,l=ls++[(⟨nf,df,sf⟩,a_ Au nu cu)]:=⟨_,rfl⟩;rw[<-M]at j;have b6:lt.length<=ls.length+1:=by rw[M];simp
   have bg:=Z_ M;clear M;have av:=Z_ j;obtain⟨A3,c3,I⟩:=j.form;clear j G V K J D x0 x1 x2 x3 x4 x5 x6 x7 X y1 Y Z;subst I;go_wp2;go_roundw
   case rel=>exact⟨k+1,v_,_,by omega,by go_num,rfl,av,Z_ (by have:=HP.o.gu M;rw[HF.o]at this;rw[bg.o];simpa using this),by omega⟩
   simp[intOf];omega
  |false=>
   cases bd:Kk nm nf with
   |false=>
    have cb:K4 nm nf=false:=by rw[kK];exact bd
    have bN:=Z_ bd;clear bd;go_wp2_with fail
    go_quiet (fail)
    have O:=Z_ (HR.o.go U.o (below_drewN (JG _ wr) nq));have bb:x_ (a8 (λb=>S b\/(w.heap.size+3<=b/\b<W3.heap.size)) (wr.drewN nq) (a_ Au nu cu) (l_ df)):=ad;have bB:x_ (a8 (λb=>S b\/(w.heap.size+3<=b/\b<W3.heap.size)) (wr.drewN nq) (a_ Ad nd cd) (l_ data)):=a1;have ak:x_ (∀o,(wr.drewN nq).cell? ⟨b,o,b_⟩=wr.cell? ⟨b,o,b_⟩):=Z_ (λo=>rfl);clear HR ad a1 x0 x1 x2 x3 x4 x5 x6 x7 X y1 Y;rw[<-ak.o]at g0 g1 g2;clear ak;generalize wr.drewN nq=wq at*;obtain⟨⟨x0,x1,x2,x3⟩,⟨X,y1,Y⟩,x4,x5,x6,x7⟩:=HI.o.cells O.o.below;simp only at X Y;have Z:=O.o.below.size;have J:=(O.o.go U.o (ah wq (f_ #[g_ ⟨nf.toArray⟩,a_ Au nu cu,e_ d_ sf] 109))).own;have D:=gh wq ⟨nf,df,sf⟩ (a_ Au nu cu) 109;go_wp2_with (at_builtin;refine eI _ rfl _ _ _ rfl W3 109 3 48 qV _ _ _ rfl J wq _ rfl ?c0 D (fo _ _ _ _) ?c1 ?c2 ?c3 ?_)
    case c0=>rfl
    case c1=>first|omega|(simp;omega)
    case c2=>first|omega|(simp;omega)
    case c3=>first|omega|(simp;omega)
    intro v3 w3 G V K;have j:=O.o.nT U.o (f:=⟨nf,df,sf⟩) bb.o _ G V K;obtain⟨lt,M⟩:∃l,l=ls++[(⟨nf,df,sf⟩,a_ Au nu cu)]:=⟨_,rfl⟩;rw[<-M]at j;have b6:lt.length<=ls.length+1:=by rw[M];simp
    have bg:=Z_ M;clear M;have av:=Z_ j;obtain⟨A3,c3,I⟩:=j.form;clear j G V K J D x0 x1 x2 x3 x4 x5 x6 x7 X y1 Y Z;subst I;go_wp2;go_roundw
    case rel=>exact⟨k+1,o_,_,by omega,by go_num,rfl,av,Z_ (by have:=HP.o.later M (by rw[HF.o];exact bN.o);rw[HF.o]at this;rw[bg.o];simpa using this),by omega⟩
    simp[intOf];omega
   |true=>
    have cb:K4 nm nf=true:=by rw[kK];exact bd
    have bN:=Z_ bd;clear bd;go_wp2_with fail
    go_quiet (fail)
    have O:=Z_ (HR.o.go U.o (below_drewN (JG _ wr) nq));have bb:x_ (a8 (λb=>S b\/(w.heap.size+3<=b/\b<W3.heap.size)) (wr.drewN nq) (a_ Au nu cu) (l_ df)):=ad;have bB:x_ (a8 (λb=>S b\/(w.heap.size+3<=b/\b<W3.heap.size)) (wr.drewN nq) (a_ Ad nd cd) (l_ data)):=a1;have ak:x_ (∀o,(wr.drewN nq).cell? ⟨b,o,b_⟩=wr.cell? ⟨b,o,b_⟩):=Z_ (λo=>rfl);clear HR ad a1 x0 x1 x2 x3 x4 x5 x6 x7 X y1 Y;rw[<-ak.o]at g0 g1 g2;clear ak;generalize wr.drewN nq=wq at*;obtain⟨⟨x0,x1,x2,x3⟩,⟨X,y1,Y⟩,x4,x5,x6,x7⟩:=HI.o.cells O.o.below;simp only at X Y;have Z:=O.o.below.size;have J:=(O.o.go U.o (ah wq (f_ #[g_ ⟨nm.toArray⟩,a_ Ad nd cd,e_ d_ safe] 109))).own;have D:=gh wq ⟨nm,data,safe⟩ (a_ Ad nd cd) 109;go_wp2_with (at_builtin;refine eI _ rfl _ _ _ rfl W3 109 3 48 qV _ _ _ rfl J wq _ rfl ?c0 D (fo _ _ _ _) ?c1 ?c2 ?c3 ?_)
    case c0=>rfl
    case c1=>first|omega|(simp;omega)
    case c2=>first|omega|(simp;omega)
    case c3=>first|omega|(simp;omega)
    intro c6 bj G V K;have j:=O.o.nT U.o (f:=⟨nm,data,safe⟩) bB.o _ G V K;obtain⟨bO,a2⟩:∃l,l=ls++[(⟨nm,data,safe⟩,a_ Ad nd cd)]:=⟨_,rfl⟩;rw[<-a2]at j;have cp:bO.length<=ls.length+1:=by rw[a2];simp
    have cc:=Z_ a2;clear a2;have bf:=Z_ j;obtain⟨c7,c8,I⟩:=j.form;clear j G V K J D x0 x1 x2 x3 x4 x5 x6 x7 X y1 Y Z;subst I;have cf:∀o,bj.cell? ⟨b,o,b_⟩=wq.cell? ⟨b,o,b_⟩:=λo=>CA O.o bf.o hb o
    rw[<-cf]at g0 g1 g2;have ck:=Z_ (Eu U.o O.o bf.o bb.o);clear cf bb;obtain⟨⟨x0,x1,x2,x3⟩,⟨X,y1,Y⟩,x4,x5,x6,x7⟩:=HI.o.cells bf.o.below;simp only at X Y;have Z:=bf.o.below.size;have J:=(bf.o.go U.o (ah bj (f_ #[g_ ⟨nf.toArray⟩,a_ Au nu cu,e_ d_ sf] 109))).own;have D:=gh bj ⟨nf,df,sf⟩ (a_ Au nu cu) 109;go_wp2_with (at_builtin;refine eI _ rfl _ _ _ rfl W3 109 3 48 qV _ _ _ rfl J bj _ rfl ?c0 D (fo _ _ _ _) ?c1 ?c2 ?c3 ?_)
    case c0=>rfl
    case c1=>first|omega|(simp;omega)
    case c2=>first|omega|(simp;omega)
    case c3=>first|omega|(simp;omega)
    intro c9 eb G V K;have j:=bf.o.nT U.o (f:=⟨nf,df,sf⟩) ck.o _ G V K;obtain⟨cl,ba⟩:∃l,l=bO++[(⟨nf,df,sf⟩,a_ Au nu cu)]:=⟨_,rfl⟩;rw[<-ba]at j;have cr:cl.length<=bO.length+1:=by rw[ba];simp
    have cg:=Z_ ba;clear ba;have av:=Z_ j;obtain⟨ec,ee,I⟩:=j.form;clear j G V K J D x0 x1 x2 x3 x4 x5 x6 x7 X y1 Y Z;subst I;go_wp2;go_roundw
    case rel=>exact⟨k+1,v_,_,by omega,by go_num,rfl,av,Z_ (by have:=HP.o.now M (by rw[HF.o];exact bN.o);rw[HF.o]at this;rw[cg.o,cc.o];simpa using this),by omega⟩
    simp[intOf];omega
 have cm:k=gs.length:=by omega
 subst cm;cases put with
 |true=>
  have HE:=Z_ HP.o.done;go_wp2;refine C_ (v:=JI #[e_ d_ pow,a_ Ax ls.length cx]) (by simp[results,Tryz.results53,go_sem,x0,x1,x2,x3,x4,x5,x6,x7]) rfl ⟨_,rfl,?_⟩;have:=HI.o.fin HS.o HR.o ((((Kept.refl _ wr).setCell (p:=⟨w,1,b_⟩) (.inl (.inl rfl)) (a_ Ax ls.length cx)).setCell (p:=⟨w+2,0,b_⟩) (.inl (.inr rfl)) (e_ d_ pow)).setCell (p:=⟨w+2,1,b_⟩) (.inl (.inr rfl)) (a_ Ax ls.length cx));rw[HE.o]at this;rw[b2.o];exact this
 |false=>
  have HE:=Z_ HP.o.last;clear x0 x1 x2 x3 x4 x5 x6 x7 X y1 Y;obtain⟨⟨x0,x1,x2,x3⟩,⟨X,y1,Y⟩,x4,x5,x6,x7⟩:=HI.o.cells HR.o.below;simp only at X Y;have Z:=HR.o.below.size;have J:=(HR.o.go U.o (ah wr (f_ #[g_ ⟨nm.toArray⟩,a_ Ad nd cd,e_ d_ safe] 109))).own;have D:=gh wr ⟨nm,data,safe⟩ (a_ Ad nd cd) 109;go_wp2_with (at_builtin;refine eI _ rfl _ _ _ rfl W3 109 3 48 qV _ _ _ rfl J wr _ rfl ?c0 D (fo _ _ _ _) ?c1 ?c2 ?c3 ?_)
  case c0=>rfl
  case c1=>first|omega|(simp;omega)
  case c2=>first|omega|(simp;omega)
  case c3=>first|omega|(simp;omega)
  intro v3 w3 G V K;have j:=HR.o.nT U.o (f:=⟨nm,data,safe⟩) a1.o _ G V K;obtain⟨lt,M⟩:∃l,l=ls++[(⟨nm,data,safe⟩,a_ Ad nd cd)]:=⟨_,rfl⟩;rw[<-M]at j;have b6:lt.length<=ls.length+1:=by rw[M];simp
  have bg:=Z_ M;clear M;have av:=Z_ j;obtain⟨A3,c3,I⟩:=j.form;clear j G V K J D x0 x1 x2 x3 x4 x5 x6 x7 X y1 Y Z;subst I;obtain⟨⟨x0,x1,x2,x3⟩,⟨X,y1,Y⟩,x4,x5,x6,x7⟩:=HI.o.cells av.o.below;go_wp2;refine C_ (v:=JI #[e_ d_ pow,a_ A3 lt.length c3]) (by simp[results,Tryz.results53,go_sem,x0,x1,x2,x3,x4,x5,x6,x7]) rfl ⟨_,rfl,?_⟩;have:=HI.o.fin HS.o av.o ((((Kept.refl _ w3).setCell (p:=⟨w,1,b_⟩) (.inl (.inl rfl)) (a_ A3 lt.length c3)).setCell (p:=⟨w+2,0,b_⟩) (.inl (.inr rfl)) (e_ d_ pow)).setCell (p:=⟨w+2,1,b_⟩) (.inl (.inr rfl)) (a_ A3 lt.length c3));have e:lt.map (·.1)=ls.map (·.1)++[⟨nm,data,safe⟩]:=by rw[bg.o,Lb];rfl
  rw[e,HE.o]at this;rw[b2.o];exact this
structure dU(w:j_)(pow:Int)(v:m_)(W:j_):Prop where
 below:n_ w.heap.size w W
 size:w.heap.size+2<=W.heap.size
 h0:W.heap[w.heap.size]?=c_ (f_ #[e_ d_ pow,v] 33 (0,0))
 h1:W.heap[w.heap.size+1]?=c_ (f_ #[e_ d_ 0,a_ b_ 0 0] 33 (0,0))
theorem dU.start(w:j_)(pow:Int)(A:Option Kb)(n c:Nat):dU w pow (a_ A n c) (Zz w pow A n c):=
 ⟨kC w pow A n c,by rw[dg];omega,zG w pow A n c,zI w pow A n c⟩
theorem dU.go(h:dU w pow v W)(j:n_ W W W'):dU w pow v W':=by
 have G:=h.size;have D:=j.size;exact⟨h.below.trans (j.mono O_),by omega,(j.block _ O_).trans h.h0,(j.block _ O_).trans h.h1⟩
theorem dU.ae(h:dU w pow v W){F:Nat->Prop}(D:Kept F W W')(G:∀k,F k->w.heap.size+2<=k):dU w pow v W':=by
 have J:=h.size;have I:=D.size;exact⟨h.below.trans (D.below O_ (λk j=>by have:=G k j;omega)),by omega,(D.block _ O_ (λj=>by have:=G _ j;omega)).trans h.h0,(D.block _ O_ (λj=>by have:=G _ j;omega)).trans h.h1⟩
theorem dU.store(h:dU w pow v W)(j:Int)(v':m_):dU w j v' ((W.setCell ⟨w,0,b_⟩ (e_ d_ j)).setCell ⟨w,1,b_⟩ v'):=by
 have I:=h.size;have D:Kept (λb=>b=w.heap.size) W ((W.setCell ⟨w,0,b_⟩ (e_ d_ j)).setCell ⟨w,1,b_⟩ v'):=((Kept.refl (λb=>b=w.heap.size) W).setCell (p:=⟨w,0,b_⟩) (.inl rfl) _).setCell (p:=⟨w,1,b_⟩) (.inl rfl) _;have G:=D.size;exact⟨h.below.trans (D.below O_ (λk J=>by omega)),by omega,dP (eS h.h0),(D.block _ O_ O_).trans h.h1⟩
theorem dU.cells(h:dU w pow v W):
  W.cell? ⟨w,0,b_⟩=c_ (e_ d_ pow)/\W.cell? ⟨w,1,b_⟩=c_ v/\W.frozen? ⟨w,0,b_⟩=o_/\W.frozen? ⟨w,1,b_⟩=o_/\
  W.cell? ⟨w+1,0,b_⟩=c_ (e_ d_ 0)/\W.cell? ⟨w+1,1,b_⟩=c_ (a_ b_ 0 0)/\W.frozen? ⟨w+1,0,b_⟩=o_/\W.frozen? ⟨w+1,1,b_⟩=false:=by
 have h0:=h.h0;have h1:=h.h1;simp[E_,JW,h0,h1]
def jo(S:Nat->Prop)(w W:j_)(b:Nat):Prop:=S b\/(w.heap.size+2<=b/\b<W.heap.size)
theorem dU.done{fs:List af}(hS:∀b,S b->b<w.heap.size)(h:dU w pow v W)(hr:aA (jo S w W) W u fs)(D:Kept (λb=>b=w.heap.size\/b=w.heap.size+1) W w'):
  aA (fO S w w') w' u fs/\n_ w w w':=by
 have I:=h.size;have G:=D.size;refine⟨hr.ae λb j=>?_,h.below.trans (D.below O_ (λk J=>by omega))⟩;rcases j with j|j
 ·have:=hS b j;exact⟨.inl j,D.block b O_ O_⟩
 exact⟨.inr ⟨by omega,by omega⟩,D.block b O_ O_⟩
theorem dU.gu{fs:List af}(hS:∀b,S b->b<w.heap.size)(h:dU w pow v W)(hr:aA S w u fs):aA S W u fs:=hr.ae λb j=>⟨j,h.below.block b (hS b j)⟩
theorem dU.I0(hS:∀b,S b->b<w.heap.size)(h:dU w pow v W)(hr:a8 S w u xs):a8 S W u xs:=hr.ae λb j=>⟨j,h.below.block b (hS b j)⟩
theorem aA.vd{fs:List af}(h:aA S W v fs):aA (jo S w W) W v fs:=h.sub λb j=>.inl j
theorem aA.Gu{fs:List af}(h:aA (fO S W W') W' v fs)(D:w.heap.size+2<=W.heap.size):aA (jo S w W') W' v fs:=h.sub λb j=>by
 rcases j with j|j
 ·exact .inl j
 exact .inr ⟨by omega,j.2⟩
def qo(w:j_)(S:Nat->Prop)(r:St×Int)(e:Ending)(w':j_):Prop:=
 ∃v',e=k_ (J_ #[JI #[e_ d_ r.1.aa,v'],e_ d_ r.2])/\aA (fO S w w') w' v' r.1.files/\n_ w.heap.size w w'
theorem mM{st:St}{e:Int}(h:bH st s=.error e):ye st.files s v_=e/\e≠0:=by
 refine⟨?_,vU h⟩;unfold bH at h;unfold ye;split at h
 ·rename_i hn
  rw[G_ hn];split at h
  ·cases h
  rename_i j;cases h;rw[j];rfl
 rename_i hn;cases h;rw[I_ hn]
theorem qB{st:St}{f:af}(h:bH st s=.ok f):ye st.files s v_=0/\aj af.name s st.files=c_ f:=by
 unfold bH at h;unfold ye;split at h
 ·rename_i hn
  rw[G_ hn];split at h
  ·rename_i j;cases h;rw[j];exact⟨rfl,rfl⟩
  cases h
 cases h
theorem jw{st:St}{fs:List af}(h:st.aa=0):cT st fs=(st,13):=by unfold cT;rw[G_ h]
theorem mR{st:St}{fs:List af}(h:¬st.aa=0):cT st fs=(⟨dec st.aa,fs⟩,0):=by unfold cT;rw[I_ h]
theorem xc(st:St)(hp:st.aa<=9223372036854775807)(v:m_)(S:Nat->Prop)(w:j_)(hS:∀b,S b->b<w.heap.size)(h:aA S w v st.files)(s:List UInt8)(hs:s.length<=9223372036854775807)(hl:st.files.length<=900000):
  H_ h_ 96 #[JI #[e_ d_ st.aa,v],g_ ⟨s.toArray⟩] w (qo w S (cD st s)):=by
 obtain⟨pow,fs⟩:=st;simp only at hp h hl⊢;obtain⟨A,c,rfl,hc,hm⟩:=h.form;have H:=Z_ h;clear h;have G:=Z_ hS;clear hS;have b1:=dU.start w pow A fs.length c;have bb:x_ (∀b,S b->b<(Zz w pow A fs.length c).heap.size):=Z_ λb hb=>by have:=G.o b hb;rw[dg];omega
 have ak:=fZ pow _ fs S _ bb.o (b1.gu G.o H.o) s hs v_;have B1:=Z_ b1;have j:=Z_ ak;clear b1 ak;cases hf:bH ⟨pow,fs⟩ s with
 |error er=>
  obtain⟨e1,e2⟩:=mM hf;have I:=Z_ (nG hf);simp only at e1;rw[e1]at j;clear e1 hf;go_enter Tryz.func96,Tryz.ntmps96;go_wp2_with fail;refine j.o.mono ?_;rintro e w2 ⟨rfl,D⟩;have B2:=Z_ (B1.o.go D);obtain⟨K,M,O,U,V,X,Y,Z⟩:=B2.o.cells;clear D j B1;go_wp2;refine C_ (v:=J_ #[JI #[e_ d_ pow,a_ A fs.length c],e_ d_ er]) (by simp[results,Tryz.results96,go_sem,K,M,O,U,V,X,Y,Z]) rfl ?_;rw[I.o];exact⟨_,rfl,B2.o.done G.o (aA.vd (B2.o.gu G.o H.o)) (((Kept.refl _ w2).setCell (p:=⟨w+1,0,b_⟩) (.inl (.inr rfl)) _).setCell (p:=⟨w+1,1,b_⟩) (.inl (.inr rfl)) _)⟩
 |ok f=>
  obtain⟨e1,e2⟩:=qB hf;have I:=Z_ (pM hf);simp only at e1;rw[e1]at j;clear e1 e2 hf;go_enter Tryz.func96,Tryz.ntmps96;go_wp2_with fail;refine j.o.mono ?_;rintro e w2 ⟨rfl,D⟩;have B2:=Z_ (B1.o.go D);obtain⟨K,M,O,U,V,X,Y,Z⟩:=B2.o.cells;clear D j B1;go_wp2_with fail;refine(jF pow hp A fs.length c w2).mono ?_;rintro e w3 ⟨rfl,av⟩;have B3:=Z_ (B2.o.go av);clear K M O U V X Y Z av B2;obtain⟨K,M,O,U,V,X,Y,Z⟩:=B3.o.cells;by_cases J:pow=0
  ·subst J
   have HD:=Z_ (jw (st:=⟨0,fs⟩) (fs:=an af.name s fs) rfl);rw[G_ rfl,show dec 0=0 from rfl];go_wp2;refine C_ (v:=J_ #[JI #[e_ d_ 0,a_ A fs.length c],e_ d_ 13]) (by simp[results,Tryz.results96,go_sem,K,M,O,U,V,X,Y,Z]) rfl ?_;rw[I.o,HD.o];exact⟨_,rfl,B3.o.done G.o (aA.vd (B3.o.gu G.o H.o)) (((((Kept.refl _ w3).setCell (p:=⟨w,0,b_⟩) (.inl (.inl rfl)) _).setCell (p:=⟨w,1,b_⟩) (.inl (.inl rfl)) _).setCell (p:=⟨w+1,0,b_⟩) (.inl (.inr rfl)) _).setCell (p:=⟨w+1,1,b_⟩) (.inl (.inr rfl)) _)⟩
  have HD:=Z_ (mR (st:=⟨pow,fs⟩) (fs:=an af.name s fs) J);rw[I_ J];clear J;have b4:=B3.o.store (dec pow) (a_ A fs.length c);have a1:=j9 (dec pow) _ fs S _ (λb hb=>by have:=G.o b hb;have:=b4.size;omega) (b4.gu G.o H.o) s O_;have a2:=Z_ a1;have B4:=Z_ b4;clear a1 b4;generalize dec pow=pd at*;go_wp2_with fail;refine a2.o.mono ?_;rintro e w5 ⟨v5,rfl,ad,ba⟩;have B5:=Z_ (B4.o.go ba);have R5:=Z_ (aA.Gu ad B4.o.size);obtain⟨A5,c5,rfl,-,-⟩:=ad.form;clear K M O U V X Y Z ba ad a2;obtain⟨K,M,O,U,V,X,Y,Z⟩:=B5.o.cells;go_wp2;refine C_ (v:=J_ #[JI #[e_ d_ pd,a_ A5 _ c5],e_ d_ 0]) (by simp[results,Tryz.results96,go_sem,K,M,O,U,V,X,Y,Z];rfl) rfl ?_;rw[I.o,HD.o];exact⟨_,rfl,B5.o.done G.o R5.o (((Kept.refl _ w5).setCell (p:=⟨w+1,0,b_⟩) (.inl (.inr rfl)) _).setCell (p:=⟨w+1,1,b_⟩) (.inl (.inr rfl)) _)⟩
theorem AK(h:a8 S w (a_ A n c) (l_ l)):n=l.length:=by
 obtain⟨D,G,e,-⟩:=h;injection e with I j J;rw[j,t_]
theorem lE{fs:List af}(hS:∀b,S b->b<w.heap.size)(h:aA S w v fs){f:af}(D:aj af.name s fs=c_ f):
  H_ h_ 52 #[JI #[e_ d_ pow,v],g_ ⟨s.toArray⟩] w λe w'=>∃i,∃h:i<fs.length,e=k_ (e_ d_ (i:Nat))/\fs[i]=f/\n_ w w w':=by
 refine(uI pow v fs S w hS h s).mono ?_;rintro e w' ⟨G,⟨i,hi,rfl,j⟩|⟨rfl,hn⟩⟩
 ·rw[D]at j
  injection j with j;exact⟨i,hi,rfl,j.symm,G⟩
 rw[D]at hn;cases hn
theorem kI{fs:List af}(h:aA S w (a_ A n c) fs)(hS:∀b,S b->b<w.heap.size)(D:n_ w w W){i:Nat}(hi:i<fs.length){f:af}(I:fs[i]=f):
  ∃b off Au cu,A=c_ ⟨b,off,b_⟩/\b<w.heap.size/\W.cell? ⟨b,off+i*3,b_⟩=c_ (g_ ⟨f.name.toArray⟩)/\W.cell? ⟨b,off+i*3+1,b_⟩=c_ (a_ Au f.data.length cu)/\W.cell? ⟨b,off+i*3+2,b_⟩=c_ (e_ d_ f.safe)/\a8 S w (a_ Au f.data.length cu) (l_ f.data):=by
 obtain⟨b,off,Au,M,cu,rfl,h1,h2,J,K,G⟩:=h.there hS D i hi;subst I;have:=AK G;subst this;exact⟨b,off,Au,cu,rfl,h1,h2,J,K,G.ae λb j=>⟨j,(D.block b (hS b j)).symm⟩⟩
theorem da(h:w.heap[b]?=c_ (f_ #[u0,u1,u2] t (0,0)))(x:m_):
  (w.setCell ⟨b,0,b_⟩ x).heap[b]?=c_ (f_ #[x,u1,u2] t (0,0))/\(w.setCell ⟨b,1,b_⟩ x).heap[b]?=c_ (f_ #[u0,x,u2] t (0,0))/\(w.setCell ⟨b,2,b_⟩ x).heap[b]?=c_ (f_ #[u0,u1,x] t (0,0)):=by
 have j:=F_ h;have D:w.heap[b]=f_ #[u0,u1,u2] t (0,0):=by simpa[Kz j]using h
 refine⟨?_,?_,?_⟩<;>simp[World.setCell,Array.getElem_modify,j,D]
structure EG(w:j_)(S:Nat->Prop)(pow:Int)(v:m_)(x:af)(bx:Nat)(W:j_):Prop where
 box:dU w pow v W
 lo:w.heap.size+2<=bx
 hx:∃Au cu,W.heap[bx]?=c_ (f_ #[g_ ⟨x.name.toArray⟩,a_ Au x.data.length cu,e_ d_ x.safe] 109 (0,0))/\a8 S w (a_ Au x.data.length cu) (l_ x.data)
theorem zn{x:af}(j:dU w pow v W)(hs:a8 S w (a_ Au x.data.length cu) (l_ x.data)):
  EG w S pow v x W (W.alloc (f_ #[g_ ⟨x.name.toArray⟩,a_ Au x.data.length cu,e_ d_ x.safe] 109)):=
 ⟨j.go (ah W _),j.size,Au,cu,r_ W _,hs⟩
theorem zo{x:af}(D:dU w pow v W)(hs:a8 S w (a_ Au x.data.length cu) (l_ x.data))(j:w.heap.size+2<=bx)(hx:W.heap[bx]?=c_ (f_ #[u0,u1,u2] 109 (0,0))):
  EG w S pow v x bx (((W.setCell ⟨bx,0,b_⟩ (g_ ⟨x.name.toArray⟩)).setCell ⟨bx,1,b_⟩ (a_ Au x.data.length cu)).setCell ⟨bx,2,b_⟩ (e_ d_ x.safe)):=
 ⟨D.ae (F:=λb=>b=bx) ((((Kept.refl (λb=>b=bx) W).setCell (p:=⟨bx,0,b_⟩) (.inl rfl) _).setCell (p:=⟨bx,1,b_⟩) (.inl rfl) _).setCell (p:=⟨bx,2,b_⟩) (.inl rfl) _) (λk G=>by omega),j,Au,cu,(da (da (da hx _).1 _).2.1 _).2.2,hs⟩
theorem EG.cells{x:af}(h:EG w S pow v x bx W):∃Au cu,(W.cell? ⟨bx,0,b_⟩=c_ (g_ ⟨x.name.toArray⟩)/\W.cell? ⟨bx,1,b_⟩=c_ (a_ Au x.data.length cu)/\W.cell? ⟨bx,2,b_⟩=c_ (e_ d_ x.safe))/\
  (W.frozen? ⟨bx,0,b_⟩=o_/\W.frozen? ⟨bx,1,b_⟩=o_/\W.frozen? ⟨bx,2,b_⟩=o_)/\W.heap[bx]?=c_ (f_ #[g_ ⟨x.name.toArray⟩,a_ Au x.data.length cu,e_ d_ x.safe] 109 (0,0))/\a8 S w (a_ Au x.data.length cu) (l_ x.data):=by
 obtain⟨Au,cu,h1,h2⟩:=h.hx;exact⟨Au,cu,by simp[E_,h1],by simp[JW,h1],h1,h2⟩
theorem zm{G:j_}{z0 j D:m_}(I:n_ ((W.alloc (f_ #[z0,j,D] 109)).drew).heap.size ((W.alloc (f_ #[z0,j,D] 109)).drew) G):G.heap[W.heap.size]?=c_ (f_ #[z0,j,D] 109 (0,0)):=by
 rw[I.block W (by show _<(W.alloc _).heap.size;simp)];exact r_ W _
theorem gL(h:W.heap[b]?=c_ (f_ #[u0,u1,u2] t (0,0))):
  W.cell? ⟨b,0,b_⟩=c_ u0/\W.cell? ⟨b,1,b_⟩=c_ u1/\W.cell? ⟨b,2,b_⟩=c_ u2/\W.frozen? ⟨b,0,b_⟩=o_/\W.frozen? ⟨b,1,b_⟩=o_/\W.frozen? ⟨b,2,b_⟩=false:=by simp[E_,JW,h]
theorem xZ{pd:Int}{fs:List af}{f:af}
  (I:∀W,dU w pd (a_ A fs.length c) W->H_ h_ 52 #[JI #[e_ d_ pd,a_ A fs.length c],g_ ⟨s.toArray⟩] W λe w'=>∃i,∃h:i<fs.length,e=k_ (e_ d_ (i:Nat))/\fs[i]=f/\n_ W W w')
  (hS:∀b,S b->b<w.heap.size) (h:aA S w (a_ A fs.length c) fs) (W:j_) (K:dU w pd (a_ A fs.length c) W):
  H_ h_ 52 #[JI #[e_ d_ pd,a_ A fs.length c],g_ ⟨s.toArray⟩] W λe j=>∃(i b off:Nat) (Au:Option Kb) (cu:Nat),e=k_ (e_ d_ (i:Nat))/\A=c_ ⟨b,off,b_⟩/\
   x_ (n_ W W j/\dU w pd (a_ A fs.length c) j)/\
   (i<fs.length/\b<j.heap.size/\w.heap.size<j.heap.size/\¬w.heap.size=j.heap.size/\¬j.heap.size=w.heap.size/\¬b=j.heap.size/\(∀k,w.heap.size<=k->¬b=k))/\
   (j.cell? ⟨w,0,b_⟩=c_ (e_ d_ pd)/\j.cell? ⟨w,1,b_⟩=c_ (a_ A fs.length c)/\j.frozen? ⟨w,0,b_⟩=o_/\j.frozen? ⟨w,1,b_⟩=o_/\
    j.cell? ⟨w+1,0,b_⟩=c_ (e_ d_ 0)/\j.cell? ⟨w+1,1,b_⟩=c_ (a_ b_ 0 0)/\j.frozen? ⟨w+1,0,b_⟩=o_/\j.frozen? ⟨w+1,1,b_⟩=o_)/\
   j.cell? ⟨b,off+i*3,b_⟩=c_ (g_ ⟨f.name.toArray⟩)/\j.cell? ⟨b,off+i*3+1,b_⟩=c_ (a_ Au f.data.length cu)/\j.cell? ⟨b,off+i*3+2,b_⟩=c_ (e_ d_ f.safe)/\x_ (a8 S w (a_ Au f.data.length cu) (l_ f.data)):=by
 refine(I W K).mono ?_;rintro e j ⟨i,hi,rfl,J,D⟩;have G:=K.go D;obtain⟨b,off,Au,cu,rfl,X,M,O,U,V⟩:=kI h hS G.below hi J;have Y:=G.size;exact⟨i,b,off,Au,cu,rfl,rfl,Z_ ⟨D,G⟩,⟨hi,by omega,by omega,by omega,by omega,by omega,λk Z=>by omega⟩,G.cells,M,O,U,Z_ V⟩
theorem tw(st:St)(hp:st.aa<=9223372036854775807)(v:m_)(S:Nat->Prop)(w:j_)(hS:∀b,S b->b<w.heap.size)(h:aA S w v st.files)(s:List UInt8)(hs:s.length<=9223372036854775807)(hl:st.files.length<=900000):
  H_ h_ 114 #[JI #[e_ d_ st.aa,v],g_ ⟨s.toArray⟩] w (qo w S (dG st s)):=by
 obtain⟨pow,fs⟩:=st;simp only at hp h hl⊢;obtain⟨A,c,rfl,hc,hm⟩:=h.form;have H:=Z_ h;clear h;have j:=Z_ hS;clear hS;have b1:=dU.start w pow A fs.length c;have bm:x_ (∀b,S b->b<(Zz w pow A fs.length c).heap.size):=Z_ λb hb=>by have:=j.o b hb;rw[dg];omega
 have a1:=fZ pow _ fs S _ bm.o (b1.gu j.o H.o) s hs v_;have B1:=Z_ b1;have D:=Z_ a1;clear b1 a1;cases hf:bH ⟨pow,fs⟩ s with
 |error er=>
  obtain⟨e1,e2⟩:=mM hf;have Y:=Z_ (rV hf);simp only at e1;rw[e1]at D;clear e1 hf;go_enter Tryz.func114,Tryz.ntmps114;go_wp2_with fail;refine D.o.mono ?_;rintro e w2 ⟨rfl,G⟩;have B2:=Z_ (B1.o.go G);obtain⟨I,J,K,M,O,U,V,X⟩:=B2.o.cells;clear G D B1;go_wp2;refine C_ (v:=J_ #[JI #[e_ d_ pow,a_ A fs.length c],e_ d_ er]) (by simp[results,Tryz.results114,go_sem,I,J,K,M,O,U,V,X]) rfl ?_;rw[Y.o];exact⟨_,rfl,B2.o.done j.o (aA.vd (B2.o.gu j.o H.o)) (((Kept.refl _ w2).setCell (p:=⟨w+1,0,b_⟩) (.inl (.inr rfl)) _).setCell (p:=⟨w+1,1,b_⟩) (.inl (.inr rfl)) _)⟩
 |ok f=>
  obtain⟨e1,e2⟩:=qB hf;have Y:=Z_ (lH hf);simp only at e1 e2;rw[e1]at D;have bn:=Z_ e2;clear e1 e2 hf;go_enter Tryz.func114,Tryz.ntmps114;go_wp2_with fail;refine D.o.mono ?_;rintro e w2 ⟨rfl,G⟩;have B2:=Z_ (B1.o.go G);obtain⟨I,J,K,M,O,U,V,X⟩:=B2.o.cells;clear G D B1;go_wp2_with fail;refine(jF pow hp A fs.length c w2).mono ?_;rintro e w3 ⟨rfl,a2⟩;have B3:=Z_ (B2.o.go a2);clear I J K M O U V X a2 B2;obtain⟨I,J,K,M,O,U,V,X⟩:=B3.o.cells;by_cases Z:pow=0
  ·subst Z
   have HD:=Z_ (jw (st:=⟨0,fs⟩) (fs:=aq af.name ⟨f.name,f.data,f.data.length⟩ fs) rfl);rw[G_ rfl,show dec 0=0 from rfl];go_wp2;refine C_ (v:=J_ #[JI #[e_ d_ 0,a_ A fs.length c],e_ d_ 13]) (by simp[results,Tryz.results114,go_sem,I,J,K,M,O,U,V,X]) rfl ?_;rw[Y.o,HD.o];exact⟨_,rfl,B3.o.done j.o (aA.vd (B3.o.gu j.o H.o)) (((((Kept.refl _ w3).setCell (p:=⟨w,0,b_⟩) (.inl (.inl rfl)) _).setCell (p:=⟨w,1,b_⟩) (.inl (.inl rfl)) _).setCell (p:=⟨w+1,0,b_⟩) (.inl (.inr rfl)) _).setCell (p:=⟨w+1,1,b_⟩) (.inl (.inr rfl)) _)⟩
  have HD:=Z_ (mR (st:=⟨pow,fs⟩) (fs:=aq af.name ⟨f.name,f.data,f.data.length⟩ fs) Z);rw[I_ Z];clear Z;have B4:=Z_ (B3.o.store (dec pow) (a_ A fs.length c));generalize dec pow=pd at*;have ak:=Z_ (xZ (λW hW=>lE (S:=S) (pow:=pd) (s:=s) (f:=f) (λb hb=>by have:=j.o b hb;have:=hW.size;omega) (hW.gu j.o H.o) bn.o) j.o H.o);go_upto_region 7 with fail
  go_cut [7] (λpx wx=>∃bx,px=.pointer (c_ ⟨bx,0,b_⟩)/\x_ (EG w S pd (a_ A fs.length c) f bx wx))
  case first=>
   have bo:w.heap.size+2<=w3.heap.size:=B3.o.size;have bB:w.heap.size<w3.heap.size:=by omega
   have bN:¬w.heap.size=w3.heap.size:=by omega
   have bO:¬w3.heap.size=w.heap.size:=by omega
   go_region_with (first
    |(go_at_call 52;refine(ak.o _ (B4.o.go (B_.drew))).mono ?_;rintro e w5 ⟨i,b,off,Au,cu,rfl,rfl,HB5,⟨hi,hb,bp,ba,bb,bd,bf⟩,⟨y0,y1,y2,y3,y4,y5,y6,y7⟩,g0,g1,g2,G3⟩)
    |(go_at_call 52;refine(ak.o _ (B4.o.go ((B_.alloc L_ _).drew))).mono ?_;rintro e w5 ⟨i,b,off,Au,cu,rfl,rfl,HB5,⟨hi,hb,bp,ba,bb,bd,bf⟩,⟨y0,y1,y2,y3,y4,y5,y6,y7⟩,g0,g1,g2,G3⟩;have ad:=zm HB5.o.1;simp at ad;have bt:=Z_ ad;obtain⟨q0,q1,q2,q3,q4,q5⟩:=gL ad;clear ad))
   all_goals(
    go_wp2_with fail;go_meet;first
    |exact⟨_,rfl,Z_ (zn HB5.o.2 G3.o)⟩
    |exact⟨_,rfl,Z_ (zo HB5.o.2 G3.o bo bt.o)⟩)
  obtain⟨bx,rfl,HX⟩:=hcut;clear I J K M O U V X ak B4 B3;obtain⟨Au,cu,⟨q0,q1,q2⟩,⟨q3,q4,q5⟩,qh,qs⟩:=HX.o.cells;have bR:=HX.o.lo;obtain⟨I,J,K,M,O,U,V,X⟩:=HX.o.box.cells;have b0:¬bx=w.heap.size:=by omega
  have b2:¬w.heap.size=bx:=by omega
  have b7:=HX.o.box.ae ((Kept.refl (λb=>b=bx) _).setCell (p:=⟨bx,2,b_⟩) (.inl rfl) (e_ d_ (f.data.length:Nat))) (λk hk=>by omega);have bg:=tx pd _ fs S _ (λb hb=>by have:=j.o b hb;have:=b7.size;omega) (b7.gu j.o H.o) ⟨f.name,f.data,f.data.length⟩ (a_ Au f.data.length cu) (b7.I0 j.o qs) O_;have bj:=Z_ bg;have B7:=Z_ b7;clear bg b7 qh qs;go_wp2_with fail;refine bj.o.mono ?_;rintro e w6 ⟨v6,rfl,av,bk⟩;have B6:=Z_ (B7.o.go bk);have R6:=Z_ (aA.Gu av B7.o.size);obtain⟨A6,c6,rfl,-,-⟩:=av.form;clear I J K M O U V X q0 q1 q2 q3 q4 q5 bk av bj B7 HX;obtain⟨I,J,K,M,O,U,V,X⟩:=B6.o.cells;go_wp2;refine C_ (v:=J_ #[JI #[e_ d_ pd,a_ A6 _ c6],e_ d_ 0]) (by simp[results,Tryz.results114,go_sem,I,J,K,M,O,U,V,X];rfl) rfl ?_;rw[Y.o,HD.o];exact⟨_,rfl,B6.o.done j.o R6.o (((Kept.refl _ w6).setCell (p:=⟨w+1,0,b_⟩) (.inl (.inr rfl)) _).setCell (p:=⟨w+1,1,b_⟩) (.inl (.inr rfl)) _)⟩
structure XM(w:j_)(S:Nat->Prop)(pow:Int)(v:m_)(x:af)(Au:Option Kb)(cu:Nat)(bx:Nat)(W:j_):Prop where
 box:dU w pow v W
 lo:w.heap.size+2<=bx
 hx:W.heap[bx]?=c_ (f_ #[g_ ⟨x.name.toArray⟩,a_ Au x.data.length cu,e_ d_ x.safe] 109 (0,0))
 dH:a8 (λb=>jo S w W b/\b≠bx) W (a_ Au x.data.length cu) (l_ x.data)
theorem jo.lt(hS:∀b,S b->b<w.heap.size)(j:w.heap.size<=W.heap.size):∀b,jo S w W b->b<W.heap.size:=by
 rintro b (h|h)
 ·have:=hS b h;omega
 exact h.2
theorem jo.mono(j:W.heap.size<=W'.heap.size):∀b,jo S w W b->jo S w W' b:=by
 rintro b (h|h)
 ·exact .inl h
 exact .inr ⟨h.1,by omega⟩
theorem EG.Jk(hS:∀b,S b->b<w.heap.size){x:af}(h:EG w S pow v x bx W):∃Au cu,XM w S pow v x Au cu bx W:=by
 obtain⟨Au,cu,h1,h2⟩:=h.hx;have D:=h.lo;exact⟨Au,cu,h.box,h.lo,h1,h2.ae λb j=>⟨⟨.inl j,by have:=hS b j;omega⟩,h.box.below.block b (hS b j)⟩⟩
theorem XM.go(hS:∀b,S b->b<w.heap.size){x:af}(h:XM w S pow v x Au cu bx W)(D:n_ W W W'):XM w S pow v x Au cu bx W':=by
 have G:=h.box.size;exact⟨h.box.go D,h.lo,(D.block _ (F_ h.hx)).trans h.hx,h.dH.ae λb j=>⟨⟨jo.mono D.size b j.1,j.2⟩,D.block b (jo.lt hS O_ b j.1)⟩⟩
theorem XM.store(hS:∀b,S b->b<w.heap.size){x:af}(h:XM w S pow v x Au cu bx W)(j:Int)(v':m_):XM w S j v' x Au cu bx ((W.setCell ⟨w,0,b_⟩ (e_ d_ j)).setCell ⟨w,1,b_⟩ v'):=by
 have J:=h.box.size;have I:=h.lo;have G:Kept (λb=>b=w.heap.size) W ((W.setCell ⟨w,0,b_⟩ (e_ d_ j)).setCell ⟨w,1,b_⟩ v'):=((Kept.refl (λb=>b=w.heap.size) W).setCell (p:=⟨w,0,b_⟩) (.inl rfl) _).setCell (p:=⟨w,1,b_⟩) (.inl rfl) _;refine⟨h.box.store j v',h.lo,(G.block _ (F_ h.hx) O_).trans h.hx,h.dH.ae λb D=>⟨⟨jo.mono G.size b D.1,D.2⟩,G.block b (jo.lt hS O_ b D.1) (λe=>?_)⟩⟩;rcases D.1 with h1|h1
 ·have:=hS b h1;omega
 omega
theorem XM.kU(hS:∀b,S b->b<w.heap.size){x:af}(h:XM w S pow v x Au cu bx W)(D:Kept (λb=>b=bx) W W'){x':af}{Au':Option Kb}{cu':Nat}
  (hx:W'.heap[bx]?=c_ (f_ #[g_ ⟨x'.name.toArray⟩,a_ Au' x'.data.length cu',e_ d_ x'.safe] 109 (0,0))) (hs:a8 (λb=>jo S w W b/\b≠bx) W (a_ Au' x'.data.length cu') (l_ x'.data)):XM w S pow v x' Au' cu' bx W':=by
 have I:=h.box.size;have G:=h.lo;exact⟨h.box.ae D (λk J=>by omega),h.lo,hx,hs.ae λb j=>⟨⟨jo.mono D.size b j.1,j.2⟩,D.block b (jo.lt hS O_ b j.1) j.2⟩⟩
theorem XM.Fm(hS:∀b,S b->b<w.heap.size){x:af}(h:XM w S pow v x Au cu bx W)(k:Nat):XM w S pow v ⟨x.name,x.data,k⟩ Au cu bx (W.setCell ⟨bx,2,b_⟩ (e_ d_ k)):=
 h.kU hS ((Kept.refl (λb=>b=bx) W).setCell (p:=⟨bx,2,b_⟩) (.inl rfl) _) (da h.hx _).2.2 h.dH
theorem XM.setName(hS:∀b,S b->b<w.heap.size){x:af}(h:XM w S pow v x Au cu bx W)(s:List UInt8):XM w S pow v ⟨s,x.data,x.safe⟩ Au cu bx (W.setCell ⟨bx,0,b_⟩ (g_ ⟨s.toArray⟩)):=
 h.kU hS ((Kept.refl (λb=>b=bx) W).setCell (p:=⟨bx,0,b_⟩) (.inl rfl) _) (da h.hx _).1 h.dH
theorem XM.uR(hS:∀b,S b->b<w.heap.size){x:af}(h:XM w S pow v x Au cu bx W)(G:n_ W W w2){A2:Option Kb}{c2 D:Nat}{d:List UInt8}(hn:D=d.length)
  (hu:Par.Own w2 W 5 (a_ A2 D c2) (l_ d)):XM w S pow v ⟨x.name,d,x.safe⟩ A2 c2 bx (w2.setCell ⟨bx,1,b_⟩ (a_ A2 D c2)):=by
 subst hn;have M:=h.box.size;have I:=h.lo;have J:=F_ h.hx;refine(h.go hS G).kU hS ((Kept.refl (λb=>b=bx) w2).setCell (p:=⟨bx,1,b_⟩) (.inl rfl) _) (da (h.go hS G).hx _).2.1 ?_;have:=Own.jf hu (F:=λk=>k<W.heap.size) (λk K=>K);exact this.ae λb j=>⟨⟨.inr ⟨by have:=j.2;omega,j.1⟩,λe=>j.2 O_⟩,rfl⟩
theorem XM.cells{x:af}(h:XM w S pow v x Au cu bx W):
  (W.cell? ⟨w,0,b_⟩=c_ (e_ d_ pow)/\W.cell? ⟨w,1,b_⟩=c_ v/\W.frozen? ⟨w,0,b_⟩=o_/\W.frozen? ⟨w,1,b_⟩=o_/\
  W.cell? ⟨w+1,0,b_⟩=c_ (e_ d_ 0)/\W.cell? ⟨w+1,1,b_⟩=c_ (a_ b_ 0 0)/\W.frozen? ⟨w+1,0,b_⟩=o_/\W.frozen? ⟨w+1,1,b_⟩=o_)/\
  (W.cell? ⟨bx,0,b_⟩=c_ (g_ ⟨x.name.toArray⟩)/\W.cell? ⟨bx,1,b_⟩=c_ (a_ Au x.data.length cu)/\W.cell? ⟨bx,2,b_⟩=c_ (e_ d_ x.safe)/\W.frozen? ⟨bx,0,b_⟩=o_/\W.frozen? ⟨bx,1,b_⟩=o_/\W.frozen? ⟨bx,2,b_⟩=o_)/\
  (¬bx=w.heap.size/\¬w.heap.size=bx/\¬bx=w.heap.size+1/\¬w.heap.size+1=bx):=by
 have j:=h.lo;exact⟨h.box.cells,gL h.hx,by omega,by omega,by omega,by omega⟩
theorem aA.IZ{fs:List af}(h:aA (fO (jo S w W) W W') W' v fs)(G:w.heap.size+2<=W.heap.size)(D:W.heap.size<=W'.heap.size):aA (jo S w W') W' v fs:=h.sub λb j=>by
 rcases j with(j|j)|j
 ·exact .inl j
 ·exact .inr ⟨j.1,by omega⟩
 exact .inr ⟨by omega,j.2⟩
theorem XM.with(hS:∀b,S b->b<w.heap.size){x:af}(h:XM w S pow v x Au cu bx W){gs:List af}(hr:aA (jo S w W) W u gs)(K:gs.length<=900000):
  H_ h_ 53 #[JI #[e_ d_ pow,u],JI #[g_ ⟨x.name.toArray⟩,a_ Au x.data.length cu,e_ d_ x.safe]] W λe D=>∃G n6 I,e=k_ (JI #[e_ d_ pow,a_ G n6 I])/\x_ (aA (jo S w D) D (a_ G n6 I) (aq af.name x gs)/\XM w S pow v x Au cu bx D):=by
 have O:=h.box.size;refine(tx pow u gs (jo S w W) W (jo.lt hS O_) hr x _ (h.dH.ae λb M=>⟨M.1,rfl⟩) K).mono ?_;rintro e D ⟨v6,rfl,J,j⟩;have R:=aA.IZ J h.box.size j.size;obtain⟨G,I,rfl,-,-⟩:=R.form;exact⟨G,_,I,rfl,Z_ ⟨R,h.go hS j⟩⟩
theorem tz{B:Nat}(h:bw w B (a_ A l.length c) (l_ l))(k:Nat)(M:k<=l.length):k<=c/\bw w B (a_ A k c) (l_ (l.take k)):=by
 obtain⟨O,U,e,h2,G,D⟩:=h;rw[t_]at e h2 D;injection e with I V J;subst I J;have j:(l_ (l.take k)).length=k:=by rw[t_];simp;omega
 refine⟨by omega,A,c,by rw[j],by rw[j];omega,G,λhp=>?_⟩;rw[j]at hp;obtain⟨b,off,e,K,hc⟩:=D O_;refine⟨b,off,e,K,λi hi=>?_⟩;rw[j]at hi;rw[hc i O_];simp[l_,hi]
theorem XM.Ih(hS:∀b,S b->b<w.heap.size){x:af}(h:XM w S pow v x Au cu bx W):bw W W (a_ Au x.data.length cu) (l_ x.data):=
 h.dH.dH λb j=>jo.lt hS (by have:=h.box.size;omega) b j.1
theorem XM.done(hS:∀b,S b->b<w.heap.size){x:af}(h:XM w S pow v x Au cu bx W){fs:List af}(hr:aA (jo S w W) W u fs)(j:Kept (λb=>b=w.heap.size\/b=w.heap.size+1) W w'):
  aA (fO S w w') w' u fs/\n_ w w w':=h.box.done hS hr j
theorem jA{fs:List af}{f:af}(h:aj af.name s fs=c_ f):f∈fs:=List.mem_of_find?_eq_some h
theorem vT{fs:List af}{f:af}(h:aj af.name s fs=c_ f):f.name=s:=by
 have:=List.find?_some h;simpa using this
theorem FD(j:dU w pow v W)(s:List UInt8):XM w S pow v ⟨s,[],0⟩ b_ 0 W (W.alloc (f_ #[g_ ⟨s.toArray⟩,a_ b_ 0 0,e_ d_ 0] 109)):=
 ⟨j.go (ah W _),j.size,r_ W _,⟨b_,0,rfl,by simp[l_],by simp[maxLen],λh=>by simp[l_]at h⟩⟩
theorem XM.copy(hS:∀b,S b->b<w.heap.size){x:af}(h:XM w S pow v x Au cu bx W)(D:x.data.length<=1000000):
  H_ h_ 12 #[a_ Au x.data.length cu] W λe w'=>∃j u,e=k_ u/\x_ (XM w S pow v x Au cu bx j)/\x_ (Par.Own w' j 5 u (l_ x.data))/\x_ (n_ j j w'):=by
 refine(cY _ x.data _ W (h.Ih hS) L_ D).mono ?_;rintro e w' ⟨u,rfl,hu,G⟩;exact⟨W,u,rfl,Z_ h,Z_ hu,Z_ G⟩
