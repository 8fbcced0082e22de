import Derived.StillTailTactics
import Derived.Test.YtaalbcfpacpgfaaGreatZdTA
set_option linter.all false
set_option maxHeartbeats 16000000
set_option maxRecDepth 100000
open Bool renaming false->o_,true->v_
open Go renaming Calls->H_,Oper->L8,Program->K6,TypeId->Ki,Value->m_,World->j_,maxLen->JT
open Go.Ending renaming returned->k_
open Go.IntKind renaming bits->KZ,i64->d_,signed->KQ,u8->KD,wrap->Lg
open Go.Lib renaming byteCells->l_
open Go.Obj renaming cells->f_
open Go.Op renaming bytesLess->K4
open Go.Proofs.Tryz renaming prog->h_
open Go.RowKit renaming Below->n_,Hid->x_,intOf->A_
open Go.Value renaming agg->JI,bool->u_,int->e_,pointer->i_,slice->a_,string->g_
open Go.World renaming frozen?->JW
open Option renaming none->b_,some->c_
open Or renaming inl->Ke
namespace Go.Proofs.YtaalbcfpacpgfaaGreat
open Go.RowKit Go.Lib Go.Vfs Go.Par Go.Typ Go.Shelf
theorem mJ:∃i,h_.info? 5=c_ i/\i.zero=c_ (e_ KD 0)/\i.size=1/\i.bytes=1:=by
 have h:(h_.info? 5).map (λi=>(i.zero,i.size,i.bytes))=c_ (c_ (e_ KD 0),1,1):=by kernel_rfl
 exact info_parts h
end Go.Proofs.YtaalbcfpacpgfaaGreat
namespace Go.Typ
def fR(T:Ty):Prop:=∀x∈T.list,gV x=v_
theorem fY{x a:Ty}:∀{ts:List Ty},a∈ts->x∈a.list->x∈di ts
 |t::ts,j,hx=>by
  rw[di];rcases JL.1 j with rfl|j
  ·exact Mg _ hx
  exact Le _ (fY j hx)
theorem fR.arg{T:Ty}(h:fR T){i:Nat}(hi:i<T.args.length):fR T.args[i]:=λx hx=>h x (by
 rw[T.dd];exact Lj _ (fY (JB hi) hx))
theorem fR.self{T:Ty}(h:fR T):gV T=true:=h T (by rw[T.dd];exact Lt)
theorem cU{T:Ty}:cJ T=v_↔T.parts<=300/\fR T:=by
 unfold cJ fR;rw[Ku,decide_eq_true_iff,LH]
theorem eu{T:Ty}(h:gV T=v_):(T.kind=1/\0<=T.num/\T.num<1073741824/\T.name.toList=[]/\T.args.length=0)\/(T.kind=2/\T.num=0/\aY T.name.data.toList=v_)\/
  (T.kind=3/\T.num=0/\T.name.toList=[]/\2<=T.args.length)\/(T.kind=4/\T.num=0/\T.name.toList=[]/\T.args.length=2):=by
 unfold gV at h;simp only[Bool.or_eq_true,Ku,decide_eq_true_iff]at h;rcases h with((⟨h1,⟨⟨⟨h2,j⟩,D⟩,G⟩⟩|⟨h1,h2,j⟩)|⟨h1,⟨h2,j⟩,D⟩)|⟨h1,⟨h2,j⟩,D⟩
 ·exact .inl ⟨h1,h2,j,D,G⟩
 ·exact .inr (.inl ⟨h1,h2,j⟩)
 ·exact .inr (.inr (.inl ⟨h1,h2,j,D⟩))
 exact .inr (.inr (.inr ⟨h1,h2,j,D⟩))
end Go.Typ
namespace Go.Par
open Go Go.RowKit
section
variable{P:K6}{ops:Array L8}{Q:Exit->Act->j_->Prop}
variable{i:Nat}{a:Act}{w:j_}
theorem fN{o:L8}{K:Act->j_->Prop}(D:ops[i]?=c_ o)(hw:Region.wanted o (yielded ops a.tmps)=v_)(h:∀j:Act->j_->Prop,(∀a w,K a w->j a w)->o.wp P a w j Q):wpOp P ops Q i K a w:=by
 unfold wpOp;simp only[D,hw,Ml];exact .inl (h _ λ_ _ h=>h)
theorem ki{S:j_->Prop}{md:Region.Mode}{s:Nat}{D:L8}{v:m_}{fuel:Nat}{j:Array Bool}(hi:ops[i]?=c_ D)(G:D.dst=c_ s)
  (hs:Region.noSelect ops=v_) (I:Region.free md ops j i=v_) (hr:(Region.ready md ops j).contains i=v_)
  (J:∀c a w,Q (.panic c) (a.put D.dst v) w->Q (.panic c) a w) (K:YieldsIf P ops S D v a) (hS:S w)
  (h:wpAnyH P md ops Q S fuel (j.setIfInBounds i v_) {tmps:=a.tmps.setIfInBounds s v,defers:=a.defers} w):wpAnyH P md ops Q S (fuel+1) j a w:=
 Jy hi hs I hr J K hS (by rw[G];exact h)
end
end Go.Par
namespace Go.Proofs.YtaalbcfpacpgfaaGreat
open Go.RowKit Go.Lib Go.Vfs Go.Par Go.Typ Go.Shelf
theorem sx{W:j_}{r:Nat}{u0 u1 u2 u3:m_}(v0 v1 v2 v3:m_){t:Ki}(hr:W.heap[r]?=c_ (f_ #[u0,u1,u2,u3] t (0,0))):
  ∃j,j=((((W.setCell ⟨r,0,b_⟩ v0).setCell ⟨r,1,b_⟩ v1).setCell ⟨r,2,b_⟩ v2).setCell ⟨r,3,b_⟩ v3)/\j.heap[r]?=c_ (f_ #[v0,v1,v2,v3] t (0,0))/\Kept (·=r) W j:=
 ⟨_,rfl,Fg hr,Aa (Kept.refl _ _) (.inl rfl)⟩
def Ey:Obj:=f_ #[e_ d_ 0,e_ d_ 0,g_ ⟨#[]⟩,a_ b_ 0 0] 61 (0,0)
theorem aG.leaf(S:Nat->Prop)(W:j_)(k num:Int)(name:ByteArray)(A:Option Addr)(c:Nat)(hc:c<=JT)(hn:name.size<=9223372036854775807):aG S W (cn k num name A 0 c) (.mk k num name []):=
 .mk k num name [] A c (λ_=>u_ o_) (by simp) hc hn (λh=>by simp at h) (λi h=>by simp at h)
end Go.Proofs.YtaalbcfpacpgfaaGreat
namespace Go.Typ
open Go.RowKit Go.Lib Go.Vfs Go.Par
section
variable{α:Type}{e k:Nat}{R:(Nat->Prop)->j_->m_->α->Prop}{L B:Nat}{w w' w2 w3:j_}{xs:List α}{v v':m_}{us:List m_}
theorem az.oL(G:∀{S S':Nat->Prop} {w w':j_} {v:m_} {x:α},R S w v x->(∀b,S b->S' b/\w'.heap[b]?=w.heap[b]?)->R S' w' v x)
  (h:az e k R L B w xs v us) {Lo:Nat} (I:Lo<=L) (J:Lo<=B) (D:∀g,Lo<=g->g<w.heap.size->w'.heap[g]?=w.heap[g]?) (K:w.heap.size<=w'.heap.size):az e k R L B w' xs v us:=
 ⟨h.len,aO h.own λg e=>D g (by have:=(h.own.lt g e).1;omega) (h.own.lt g e).2,h.size,λi hi=>G (h.each i hi) λb j=>⟨⟨j.1,by omega,j.2.2⟩,D b O_ j.2.1⟩⟩
end
end Go.Typ
namespace Go.Proofs.YtaalbcfpacpgfaaGreat
open Go.RowKit Go.Lib Go.Vfs Go.Par Go.Typ Go.Shelf
theorem ja{p B:Nat}{w W:j_}(h:Kept (λx=>x=p) w W)(hp:B<=p)(j:B<=w):n_ B w W:=
 ⟨h.os,h.tape,h.output,h.size,λg D=>h.block g O_ O_⟩
end Go.Proofs.YtaalbcfpacpgfaaGreat
namespace Go.Typ
open Go.RowKit Go.Lib Go.Vfs Go.Par
theorem IP{W:j_}{b:Nat}{v:m_}{t:Ki}(h:W.heap[b]?=c_ (f_ #[v] t (0,0))):W.cell? ⟨b,0,b_⟩=c_ v:=by simp[World.cell?,h]
theorem iR{ts:List Ty}{k:Nat}(j:k<ts.length):aT (ts.drop k)=ts[k].parts+aT (ts.drop (k+1)):=by
 rw[KA j,aT]
end Go.Typ
namespace Go.Proofs.YtaalbcfpacpgfaaGreat
open Go.RowKit Go.Lib Go.Vfs Go.Par Go.Typ Go.Shelf
variable{B:Nat}{w w':j_}{v v':m_}
theorem eM{a b:j_}(h:n_ B a b)(n:Nat):n_ B a (b.drewN n):=⟨h.os,h.tape,h.output,h.size,h.block⟩
def Gr(w w':j_)(v v':m_):Prop:=w.grownBy w' v.ownBlock/\(v'.ownBlock=v.ownBlock\/∀g,v'.ownBlock=c_ g->w.heap.size<=g)
theorem Gr.refl(w:j_)(v:m_):Gr w w v v:=⟨World.grownBy.refl w _,.inl rfl⟩
theorem Gr.block(h:Gr w w' v v'){g:Nat}(j:g<w)(hn:v.ownBlock≠c_ g):w'.heap[g]?=w.heap[g]?:=h.1.block g j (λe=>hn e.symm)
theorem Gr.trans{D w2:j_}{v1 v2:m_}(h:Gr w D v v1)(k:Gr D w2 v1 v2):Gr w w2 v v2:=by
 have hs:=h.1.size;refine⟨⟨k.1.os.trans h.1.os,k.1.tape.trans h.1.tape,k.1.output.trans h.1.output,Kj h.1.size k.1.size,λg G hn=>?_⟩,?_⟩
 ·refine(k.block O_ (λe=>?_)).trans (h.1.block g G hn)
  rcases h.2 with h2|h2
  ·rw[h2]at e;exact hn e.symm
  have:=h2 g e;omega
 rcases k.2 with j|j
 ·rcases h.2 with h2|h2
  ·exact .inl (j.trans h2)
  exact .inr λg e=>h2 g (by rw[<-j];exact e)
 exact .inr λg e=>by have:=j g e;omega
theorem Gr.ar(h:n_ w w w')(v:m_):Gr w w' v v:=⟨⟨h.os,h.tape,h.output,h.size,λg j _=>h.block g j⟩,.inl rfl⟩
theorem Gr.app{o:Obj}(D:(w.alloc o).grownBy w' v.ownBlock)(j:v'.ownBlock=v.ownBlock\/v'.ownBlock=c_ (w.alloc o).heap.size):Gr w w' v v':=by
 have h0:n_ w w (w.alloc o):=B_.alloc L_ _;refine(Gr.ar h0 v).trans ⟨D,?_⟩;rcases j with h|h
 ·exact .inl h
 exact .inr λg e=>by rw[h]at e;injection e with e;omega
theorem Gr.below(h:Gr w w' v v')(D:B<=w)(j:∀g,v.ownBlock=c_ g->B<=g):n_ B w w':=
 ⟨h.1.os,h.1.tape,h.1.output,h.1.size,λg G=>h.block O_ (λe=>by have:=j g e;omega)⟩
end Go.Proofs.YtaalbcfpacpgfaaGreat
namespace Go.Typ
open Go.RowKit Go.Lib Go.Vfs Go.Par
structure Ex where
 name:ByteArray
 ty:Ty
theorem Ex.ext'{x y:Ex}(h1:x.name=y.name)(h2:x.ty=y.ty):x=y:=by cases x;cases y;simp_all
def zW(x:Ex)(A:Option Addr)(c:Nat):m_:=JI #[g_ x.name,e_ d_ x.ty.kind,e_ d_ x.ty.num,g_ x.ty.name,a_ A x.ty.args.length c]
def fA(S:Nat->Prop)(W:j_)(v:m_)(x:Ex):Prop:=∃A c,v=zW x A c/\x.name.size<=9223372036854775807/\aG S W (cn x.ty.kind x.ty.num x.ty.name A x.ty.args.length c) x.ty
theorem fA.ae{S S':Nat->Prop}{w w':j_}{v:m_}{x:Ex}(h:fA S w v x)(j:∀b,S b->S' b/\w'.heap[b]?=w.heap[b]?):fA S' w' v x:=by
 obtain⟨A,c,e,hn,D⟩:=h;exact⟨A,c,e,hn,D.ae j⟩
def bA(S:Nat->Prop)(W:j_)(v:m_)(xs:List Ex):Prop:=
 ∃A c,v=a_ A xs.length c/\xs.length<=c/\c<=JT/\∃vs:Nat->m_,
  (0<xs.length->∃b off,A=c_ ⟨b,off,b_⟩/\S b/\∀i,i<xs.length->∀j,j<5->W.cell? ⟨b,off+i*5+j,b_⟩=c_ (Gl (vs i) j))/\∀i (h:i<xs.length),fA S W (vs i) xs[i]
section
variable{S S':Nat->Prop}{W W':j_}{v:m_}{xs:List Ex}
theorem bA.ae(h:bA S W v xs)(D:∀b,S b->S' b/\W'.heap[b]?=W.heap[b]?):bA S' W' v xs:=by
 obtain⟨A,c,e,h1,h2,vs,J,K⟩:=h;refine⟨A,c,e,h1,h2,vs,λh0=>?_,λi hi=>(K i hi).ae D⟩;obtain⟨b,off,e,I,G⟩:=J h0;exact⟨b,off,e,(D b I).1,λi hi j hj=>by rw[D_ (w:=W) (a:=⟨b,_,b_⟩) (D b I).2];exact G i hi j hj⟩
theorem bA.sub(h:bA S W v xs)(hS:∀b,S b->S' b):bA S' W v xs:=h.ae λb j=>⟨hS b j,rfl⟩
theorem bA.fl(h:bA (·<W.heap.size) W v xs)(j:n_ W W W'):bA (·<W'.heap.size) W' v xs:=
 h.ae λb D=>⟨Kc D j.size,j.block b D⟩
theorem bA.form(h:bA S W v xs):∃A c,v=a_ A xs.length c/\xs.length<=c/\c<=JT:=by
 obtain⟨A,c,e,h1,h2,_⟩:=h;exact⟨A,c,e,h1,h2⟩
theorem bA.arg{A:Option Addr}{n c:Nat}(h:bA S W (a_ A n c) xs){i:Nat}(hi:i<xs.length):
  ∃b off D G,A=c_ ⟨b,off,b_⟩/\S b/\xs[i].name.size<=9223372036854775807/\aG S W (cn xs[i].ty.kind xs[i].ty.num xs[i].ty.name D xs[i].ty.args.length G) xs[i].ty/\
   W.cell? ⟨b,off+i*5,b_⟩=c_ (g_ xs[i].name)/\W.cell? ⟨b,off+i*5+1,b_⟩=c_ (e_ d_ xs[i].ty.kind)/\W.cell? ⟨b,off+i*5+2,b_⟩=c_ (e_ d_ xs[i].ty.num)/\
   W.cell? ⟨b,off+i*5+3,b_⟩=c_ (g_ xs[i].ty.name)/\W.cell? ⟨b,off+i*5+4,b_⟩=c_ (a_ D xs[i].ty.args.length G):=by
 obtain⟨A0,c0,e,h1,h2,vs,U,V⟩:=h;injection e with X Y Z;subst X Y Z;obtain⟨b,off,e,hb,j⟩:=U O_;obtain⟨D,G,ev,hn,ht⟩:=V i hi;have I:=j i hi 0 O_;have J:=j i hi 1 O_;have K:=j i hi 2 O_;have M:=j i hi 3 O_;have O:=j i hi 4 O_;rw[ev]at I J K M O;exact⟨b,off,D,G,e,hb,hn,ht,I,J,K,M,O⟩
theorem bA.nil(S:Nat->Prop)(W:j_)(A:Option Addr)(c:Nat)(hc:c<=JT):bA S W (a_ A 0 c) []:=
 ⟨A,c,rfl,Km _,hc,λ_=>u_ o_,λh=>by simp at h,λi h=>by simp at h⟩
theorem az.aI{e L B:Nat}{w:j_}{us:List m_}(h:az e 5 fA L B w xs v us):bA (λg=>(L<=g\/B<=g)/\g<w.heap.size) w v xs:=by
 obtain⟨A,c,rfl,hc,hm⟩:=h.form;refine⟨A,c,rfl,hc,hm,λi=>us.getD i (u_ o_),λh0=>?_,λi hi=>fA.ae (h.each i hi) λg I=>⟨⟨.inl I.1,I.2.1⟩,rfl⟩⟩;obtain⟨g,J,e,K,D,G⟩:=h.cells h0;injection e with M _ _;refine⟨g,0,M,⟨.inr K,D⟩,λi hi j hj=>?_⟩;rw[G i hi j hj];show _=c_ (Gl (us.getD i (u_ o_)) j);obtain⟨O,J,e,_⟩:=h.each i hi;rw[e];have:j=0\/j=1\/j=2\/j=3\/j=4:=by omega
 rcases this with rfl|rfl|rfl|rfl|rfl<;>rfl
end
variable{W:j_}{b q:Nat}{v0 v1 v2 v3 v4:m_}{t:Ki}{m:Int}
theorem nV(h:W.heap[b]?=c_ (f_ #[v0,v1,v2,v3,v4] t (0,0))):
  (W.cell? ⟨b,0,b_⟩=c_ v0/\W.cell? ⟨b,1,b_⟩=c_ v1/\W.cell? ⟨b,2,b_⟩=c_ v2/\W.cell? ⟨b,3,b_⟩=c_ v3/\W.cell? ⟨b,4,b_⟩=c_ v4):=by
 simp[World.cell?,h]
theorem oM(h:W.heap[b]?=c_ (f_ #[v0,v1,v2,v3,v4] t (0,0))):
  (W.frozen? ⟨b,0,b_⟩=o_/\W.frozen? ⟨b,1,b_⟩=o_/\W.frozen? ⟨b,2,b_⟩=o_/\W.frozen? ⟨b,3,b_⟩=o_/\W.frozen? ⟨b,4,b_⟩=o_):=by
 simp[JW,h]
def eT(W:j_)(q:Nat)(t:Ki)(m:Int):Prop:=W.heap[q]?=c_ (f_ #[e_ d_ m] t (0,0))
theorem eT.ae{W':j_}(h:eT W q t m)(j:W'.heap[q]?=W.heap[q]?):eT W' q t m:=j.trans h
theorem eT.lt(h:eT W q t m):q<W:=ao h
theorem eT.cell(h:eT W q t m):W.cell? ⟨q,0,b_⟩=c_ (e_ d_ m):=IP h
theorem eT.free(h:eT W q t m):W.frozen? ⟨q,0,b_⟩=false:=by
 have h:W.heap[q]?=c_ (f_ #[e_ d_ m] t (0,0)):=h;simp[JW,h]
theorem eT.put(h:eT W q t m)(m':Int):eT (W.setCell ⟨q,0,b_⟩ (e_ d_ m')) q t m':=by
 have:=ai (i:=0) (x:=e_ d_ m') h;simpa[eT]using this
mutual
def dS:Ty->Int->Bool×Int
 | .mk k n _ ts,m=>if k=1 then(if n=m then(v_,m+1)else(decide (n<m),m))else gQ ts m
def gQ:List Ty->Int->Bool×Int
 |[],m=>(v_,m)
 |t::ts,m=>if(dS t m).1=v_ then gQ ts (dS t m).2 else(o_,(dS t m).2)
end
theorem nz(T:Ty)(m:Int):dS T m=if T.kind=1 then(if T.num=m then(v_,m+1)else(decide (T.num<m),m))else gQ T.args m:=by
 obtain⟨k,n,s,ts⟩:=T;rw[dS];rfl
theorem BV{ts:List Ty}{k:Nat}(j:k<ts.length)(m:Int):gQ (ts.drop k) m=if(dS ts[k] m).1=v_ then gQ (ts.drop (k+1)) (dS ts[k] m).2 else(o_,(dS ts[k] m).2):=by
 rw[KA j,gQ]
theorem Fl(T:Ty):∀m:Int,m<=(dS T m).2/\(dS T m).2<=m+T.parts:=by
 induction T using Ty.ind with
 |h T D=>
  intro m;rw[nz];have hp:=T.dX;split
  ·split
   ·simp only;omega
   simp only;omega
  have key:∀ts:List Ty,(∀t∈ts,∀m:Int,m<=(dS t m).2/\(dS t m).2<=m+t.parts)->∀m:Int,m<=(gQ ts m).2/\(gQ ts m).2<=m+aT ts:=by
   intro ts
   induction ts with
   |nil=>intro _ m;rw[gQ,aT];simp
   |cons t ts j=>
    intro h m;rw[gQ,aT];have h1:=h t (by simp) m;have h2:=j (λx hx=>h x (by simp[hx])) (dS t m).2;split
    ·push_cast;omega
    simp only;push_cast;omega
  have:=key T.args (λt G=>by obtain⟨i,hi,rfl⟩:=J4 G;exact D i hi) m;have:=T.parts_eq;omega
mutual
def bG:Ty->Bool
 | .mk _ _ s ts=>decide (s.size<=255)&&(decide (ts.length<=255)&&dT ts)
def dT:List Ty->Bool
 |[]=>v_
 |t::ts=>bG t&&dT ts
end
theorem gg(T:Ty):bG T=(decide (T.name.size<=255)&&(decide (T.args.length<=255)&&dT T.args)):=by
 obtain⟨k,n,s,ts⟩:=T;rw[bG];rfl
theorem pI{ts:List Ty}{k:Nat}(j:k<ts.length):dT (ts.drop k)=(bG ts[k]&&dT (ts.drop (k+1))):=by
 rw[KA j,dT]
end Go.Typ
namespace Go.Proofs.YtaalbcfpacpgfaaGreat
open Go.RowKit Go.Lib Go.Vfs Go.Par Go.Typ Go.Shelf
theorem yX(q:Nat)(T:Ty):∀(m:Int) (v:m_) (w:j_),eT w q 3 m->aG (λg=>g<w.heap.size/\g≠q) w v T->0<=m->m+T.parts<=1099511627776->
  H_ h_ 158 #[v,i_ (c_ ⟨q,0,b_⟩)] w λe w'=>e=k_ (u_ (dS T m).1)/\eT w' q 3 (dS T m).2/\Kept (·=q) w w':=by
 induction T using Ty.ind with
 |h T ih=>
  intro m v w hq hT h0 hp;have IH:=Z_ ih;clear ih;obtain⟨A,c,rfl,hc,hm,hn⟩:=hT.form;have Z:=hq.lt;have cd:T.args.length<=1099511627776:=by have:=eO T.args;have:=T.parts_eq;omega
  obtain⟨W1,D⟩:=N_ (w.alloc (f_ #[.int d_ T.kind,.int d_ T.num,.string T.name,a_ A T.args.length c] 61));have ad:n_ w w W1:=by rw[D];exact B_.alloc L_ _
  have bd:W1.heap[w.heap.size]?=c_ (f_ #[.int d_ T.kind,.int d_ T.num,.string T.name,a_ A T.args.length c] 61 (0,0)):=by rw[D];exact r_ _ _
  have bf:W1.heap.size=w.heap.size+1:=by rw[D];simp
  have ak:=hq.ae (ad.block q Z);have bj:aG (λg=>g<w.heap.size/\g≠q) W1 (cn T.kind T.num T.name A T.args.length c) T:=hT.ae λg hg=>⟨hg,ad.block g hg.1⟩
  have bk:=Z_ bd;have HP:=Z_ hp;have bN:=Z_ bf;have bO:=Z_ bj;have av:=Z_ ad;have bg:=Z_ ak;have bm:=Z_ Z;obtain⟨y0,y1,y2,y3⟩:=aX bd;have c0:=ak.cell;have f0:=ak.free;have bR:=T.dX;have cf:m<=1099511627776:=by omega
  clear hT hq bd hp bj ak ad bf Z hc hm hn bR;unfold cn;by_cases Y:T.kind=1
  ·have h1:(T.kind==1)=true:=by simp[Y]
   have K1:=Z_ Y;rw[Y]at h1 D y0⊢;rw[D]at y0 y1 y2 y3 c0 f0;by_cases e:T.num=m
   ·have hr:dS T m=(v_,m+1):=by rw[nz,G_ Y,G_ e]
    have h2:(T.num==m)=true:=by simp[e]
    have M:T.num<m+1:=by omega
    rw[hr];clear hr Y e;go_enter Tryz.func158,Tryz.ntmps158;go_wp2_with fail
    go_quiet (fail)
    rw[<-D];clear D y0 y1 y2 y3 c0 f0;obtain⟨W2,j⟩:=N_ (W1.drewN nq);have hh:W2.heap=W1.heap:=by rw[j];rfl
    rw[<-j];have I:eT W2 q 3 m:=bg.o.ae (by rw[hh]);obtain⟨W3,O⟩:=N_ (W2.setCell ⟨q,0,b_⟩ (.int d_ (m+1)));have K:eT W3 q 3 (m+1):=by rw[O];exact I.put _
    have X:Kept (·=q) w W3:=by
     rw[O];refine Kept.setCell (F:=(·=q)) (p:=⟨q,0,b_⟩) ?_ (.inl rfl) _;rw[j];exact(Kept.ar av.o).drewN _
    have bn:W3.heap[w.heap.size]?=c_ (f_ #[.int d_ T.kind,.int d_ T.num,.string T.name,a_ A T.args.length c] 61 (0,0)):=by
     rw[O,JZ _ _ _ _ (by have:=bm.o;show w.heap.size≠q;omega),hh];exact bk.o
    obtain⟨x0,x1,x2,x3⟩:=aX bn;have c2:=I.cell;have f2:=I.free;have c3:=K.cell;rw[O]at x0 x1 x2 x3 c3;have HE:x_ (eT W3 q 3 (m+1)/\Kept (·=q) w W3):=Z_ ⟨K,X⟩;clear I K X bn hh j;go_wp2_with fail
    go_quiet (fail)
    rw[<-O];go_wp2;go_ret;exact⟨rfl,HE.o.1,HE.o.2.drewN _⟩
   have hr:dS T m=(decide (T.num<m),m):=by rw[nz,G_ Y,I_ e]
   have h2:(T.num==m)=false:=by simp[e]
   rw[hr];clear hr Y e;go_enter Tryz.func158,Tryz.ntmps158;go_wp2_with fail
   go_quiet (fail)
   rw[<-D];clear D y0 y1 y2 y3 c0 f0;obtain⟨W2,j⟩:=N_ (W1.drewN nq);have hh:W2.heap=W1.heap:=by rw[j];rfl
   rw[<-j];have I:eT W2 q 3 m:=bg.o.ae (by rw[hh]);have J:W2.heap[w.heap.size]?=c_ (f_ #[.int d_ T.kind,.int d_ T.num,.string T.name,a_ A T.args.length c] 61 (0,0)):=by
    rw[hh];exact bk.o
   obtain⟨x0,x1,x2,x3⟩:=aX J;have c2:=I.cell;have HE:x_ (eT W2 q 3 m/\Kept (·=q) w W2):=Z_ ⟨I,by rw[j];exact(Kept.ar av.o).drewN _⟩;clear I J hh j;go_wp2_with fail
   go_quiet (fail)
   go_wp2;go_ret;exact⟨rfl,HE.o.1,HE.o.2.drewN _⟩
  have h1:(T.kind==1)=false:=by simp[Y]
  have hr:dS T m=gQ T.args m:=by rw[nz,I_ Y]
  rw[hr];rw[D]at y0 y1 y2 y3 c0 f0;clear hr Y;go_enter Tryz.func158,Tryz.ntmps158;go_wp2;rw[<-D];clear D y0 y1 y2 y3 c0 f0 h1
  go_loopw [30] (λiv W=>∃(k:Nat) (mt:Int),k<=T.args.length/\iv=.int d_ k/\x_ (eT W q 3 mt)/\x_ (gQ (T.args.drop k) mt=gQ T.args m)/\x_ (0<=mt/\mt+aT (T.args.drop k)<=m+aT T.args)/\x_ (Kept (·=q) W1 W)) (λiv _=>T.args.length - (A_ iv).toNat)
  case atStart=>exact⟨0,m,by omega,rfl,bg,Z_ (by rw[KU]),Z_ ⟨h0,by rw[KU];exact Int.le_refl _⟩,Z_ (Kept.refl _ _)⟩
  obtain⟨k,mt,hk,rfl,HQ,bo,b0,a1⟩:=hrel;have bf:=bN.o;have Z:=bm.o;have cg:=a1.o.size;by_cases M:k<T.args.length
  ·have bp:=bO.o.ae (S':=λg=>g<w.heap.size/\g≠q) (W':=wr) λg hg=>⟨hg,a1.o.block g O_ hg.2⟩
   obtain⟨b,off,A',c',rfl,hb,ht,x0,x1,x2,x3⟩:=bp.arg M;have G:=bo.o;rw[BV M]at G;have b1:=iR M;have b2:=Fl T.args[k] mt;obtain⟨W2,j⟩:=N_ (wr.alloc (f_ #[.int d_ T.args[k].kind,.int d_ T.args[k].num,.string T.args[k].name,a_ A' T.args[k].args.length c'] 61));have J:n_ wr wr W2:=by rw[j];exact B_.alloc L_ _
   have b3:=J.size;have hle:=b0.o;have a2:=IH.o k M mt _ W2 (HQ.o.ae (J.block q O_)) (ht.ae λg hg=>⟨⟨by omega,hg.2⟩,J.block g O_⟩) hle.1 (by have:=HP.o;have:=T.parts_eq;omega);obtain⟨z0,z1,z2,z3⟩:=aX (show W2.heap[wr.heap.size]?=c_ (f_ #[.int d_ T.args[k].kind,.int d_ T.args[k].num,.string T.args[k].name,a_ A' T.args[k].args.length c'] 61 (0,0)) by rw[j];exact r_ _ _);have ba:x_ ((dS T.args[k] mt).1=v_->gQ (T.args.drop (k+1)) (dS T.args[k] mt).2=gQ T.args m):=Z_ λh=>by rw[G_ h]at G;exact G
   have bb:x_ ((dS T.args[k] mt).1=o_->(o_,(dS T.args[k] mt).2)=gQ T.args m):=Z_ λh=>by rw[I_ (by rw[h];decide)]at G;exact G
   have bt:x_ (0<=(dS T.args[k] mt).2/\(dS T.args[k] mt).2+aT (T.args.drop (k+1))<=m+aT T.args):=Z_ O_;have b5:x_ (Kept (·=q) W1 W2):=Z_ (a1.o.trans' (Kept.ar J));clear ht bp G b1 b2 hle;generalize dS T.args[k] mt=U at*;generalize T.args[k]=V at*;obtain⟨r,b6⟩:=U;simp only at a2 ba bb bt;unfold cn at a2;have cb:=Z_ a2;rw[j]at z0 z1 z2 z3;clear a2 J b3;go_wp2_with fail;rw[<-j];clear j z0 z1 z2 z3;refine cb.o.mono ?_;rintro e w3 ⟨rfl,K,X⟩;have bx:=Z_ K;have bB:=Z_ (b5.o.trans' X);clear K X;cases r with
   |false=>
    have HN:=Z_ (bb.o rfl);clear bb ba;go_wp2;go_ret;rw[<-HN.o];exact⟨rfl,bx.o,(Kept.ar av.o).trans' bB.o⟩
   |true=>
    have HN:=Z_ (ba.o rfl);clear bb ba;go_wp2;go_roundw
    case rel=>exact⟨k+1,b6,by omega,by go_num,bx,HN,bt,bB⟩
    simp[A_];omega
  have cc:k=T.args.length:=by omega
  have G:=bo.o;rw[cc,Ma,gQ]at G;have HE:=Z_ G;clear G;go_wp2;go_ret;rw[<-HE.o];exact⟨rfl,HQ.o,(Kept.ar av.o).trans' a1.o⟩
def dn(T:Ty):Bool:=cJ T&&(dS T 0).1
theorem yh(T:Ty)(v:m_)(w:j_)(hT:aG (·<w.heap.size) w v T):H_ h_ 146 #[v] w λe w'=>e=k_ (u_ (dn T))/\n_ w w w':=by
 obtain⟨A,c,rfl,hc,hm,hn⟩:=hT.form;obtain⟨W1,G⟩:=N_ (w.alloc (f_ #[e_ d_ T.kind,e_ d_ T.num,g_ T.name,a_ A T.args.length c] 61));have K:n_ w w W1:=by rw[G];exact B_.alloc L_ _
 have M:W1.heap[w.heap.size]?=c_ (f_ #[e_ d_ T.kind,e_ d_ T.num,g_ T.name,a_ A T.args.length c] 61 (0,0)):=by rw[G];exact r_ _ _
 have O:=hT.fl K;have X:=Z_ (BU T _ W1 O);have U:=Z_ M;have a2:=Z_ O;have Y:=Z_ K;obtain⟨Z,y1,y2,y3⟩:=aX M;rw[G]at Z y1 y2 y3;clear hT O M K hc hm hn;unfold cn at X⊢;go_enter Tryz.func146,Tryz.ntmps146;go_wp2_with fail;rw[<-G];clear G Z y1 y2 y3;refine X.o.mono ?_;rintro e w2 ⟨rfl,j⟩;have I:x_ (n_ w w w2):=Z_ (Y.o.trans (j.mono Y.o.size));cases hr:cJ T with
 |false=>
  have HR:x_ (dn T=o_):=Z_ (by unfold dn;rw[hr];rfl);clear hr j;go_wp2;go_ret;rw[HR.o];exact⟨rfl,I.o⟩
 |true=>
  have HR:x_ (dn T=(dS T 0).1):=Z_ (by unfold dn;rw[hr];rfl);obtain⟨W3,D⟩:=N_ (w2.alloc (f_ #[e_ d_ 0] 3));have J:n_ w2 w2 W3:=by rw[D];exact B_.alloc L_ _
  have ba:W3.heap.size=w2.heap.size+1:=by rw[D];simp
  have ad:eT W3 w2 3 0:=by rw[D];exact r_ _ _
  have V:=yX w2 T 0 _ W3 ad ((a2.o.fl j).ae λg (hg:g<w2)=>⟨⟨by omega,by omega⟩,J.block g hg⟩) (Int.le_refl _) (by have:=(cU.1 hr).1;omega);have ak:=j.block _ (ao U.o);have bb:x_ (n_ w w W3):=Z_ (I.o.trans (J.mono I.o.size));obtain⟨Z,y1,y2,y3⟩:=aX ((J.block _ (by have:=j.size;have:=ao U.o;omega)).trans (ak.trans U.o));rw[D]at Z y1 y2 y3;have av:x_ (w.heap.size<=w2.heap.size/\w2.heap.size<=W3.heap.size):=Z_ ⟨I.o.size,by omega⟩;unfold cn at V;have bd:=Z_ V;clear hr j J ba ad V ak;go_wp2_with fail;rw[<-D];clear D Z y1 y2 y3;refine bd.o.mono ?_;rintro e w4 ⟨rfl,bf,a1⟩;have bg:x_ (n_ w w w4):=Z_ (bb.o.trans (ja a1 av.o.1 (by have:=av.o;omega)));clear bf a1;go_wp2;go_ret;rw[HR.o];exact⟨rfl,bg.o⟩
theorem Cg(T:Ty):∀(v:m_) (w:j_),aG (·<w.heap.size) w v T->H_ h_ 147 #[v] w λe w'=>e=k_ (u_ (bG T))/\n_ w w w':=by
 induction T using Ty.ind with
 |h T ih=>
  intro v w hT;have IH:=Z_ ih;clear ih;obtain⟨A,c,rfl,hc,hm,hn⟩:=hT.form;obtain⟨W1,D⟩:=N_ (w.alloc (f_ #[e_ d_ T.kind,e_ d_ T.num,g_ T.name,a_ A T.args.length c] 61));have M:n_ w w W1:=by rw[D];exact B_.alloc L_ _
  have Y:W1.heap[w.heap.size]?=c_ (f_ #[e_ d_ T.kind,e_ d_ T.num,g_ T.name,a_ A T.args.length c] 61 (0,0)):=by rw[D];exact r_ _ _
  have a1:=Z_ (hT.fl M);have I:=Z_ M;obtain⟨y0,y1,y2,y3⟩:=aX Y;rw[D]at y0 y1 y2 y3;have bd:T.name.size<=9223372036854775807:=hn;clear hT Y M hc hm hn;unfold cn;by_cases h1:T.name.size<=255
  ·by_cases h2:T.args.length<=255
   ·have X:x_ (bG T=dT T.args):=Z_ (by rw[gg,JR h1,JR h2];rfl)
    have g1:¬(255:Int)<(T.name.size:Int):=by omega
    have g2:¬(255:Int)<(T.args.length:Int):=by omega
    go_enter Tryz.func147,Tryz.ntmps147;go_wp2;rw[<-D];clear D y0 y1 y2 y3 g1 g2
    go_loopw [18] (λiv W=>∃(k:Nat),k<=T.args.length/\iv=e_ d_ k/\x_ (dT (T.args.drop k)=dT T.args)/\x_ (n_ W1 W1 W)) (λiv _=>T.args.length - (A_ iv).toNat)
    case atStart=>exact⟨0,by omega,rfl,Z_ (by rw[KU]),Z_ B_⟩
    obtain⟨k,hk,rfl,Z,HB⟩:=hrel;by_cases O:k<T.args.length
    ·obtain⟨b,off,A',c',rfl,hb,ht,x0,x1,x2,x3⟩:=(a1.o.fl HB.o).arg O
     have j:=Z.o;rw[pI O]at j;obtain⟨W2,J⟩:=N_ (wr.alloc (f_ #[e_ d_ T.args[k].kind,e_ d_ T.args[k].num,g_ T.args[k].name,a_ A' T.args[k].args.length c'] 61));have U:n_ wr wr W2:=by rw[J];exact B_.alloc L_ _
     have K:=IH.o k O _ W2 (ht.fl U);obtain⟨z0,z1,z2,z3⟩:=aX (show W2.heap[wr.heap.size]?=c_ (f_ #[e_ d_ T.args[k].kind,e_ d_ T.args[k].num,g_ T.args[k].name,a_ A' T.args[k].args.length c'] 61 (0,0)) by rw[J];exact r_ _ _);have ad:x_ (n_ W1 W1 W2):=Z_ (HB.o.trans (U.mono HB.o.size));have a2:x_ (W1.heap.size<=W2.heap.size):=Z_ ad.o.size;clear ht;generalize T.args[k]=V at*;unfold cn at K;obtain⟨r,hr⟩:=N_ (bG V);rw[<-hr]at K j;have G:=Z_ j;have ba:=Z_ K;rw[J]at z0 z1 z2 z3;clear K U j hr;go_wp2_with fail;rw[<-J];clear J z0 z1 z2 z3;refine ba.o.mono ?_;rintro e w3 ⟨rfl,ak⟩;have av:x_ (n_ W1 W1 w3):=Z_ (ad.o.trans (ak.mono a2.o));clear ak;cases r with
     |false=>
      have HN:x_ (dT T.args=o_):=Z_ (by rw[<-G.o];rfl);clear G;go_wp2;go_ret;rw[X.o,HN.o];exact⟨rfl,I.o.trans (av.o.mono I.o.size)⟩
     |true=>
      have HN:x_ (dT (T.args.drop (k+1))=dT T.args):=Z_ (by rw[<-G.o];rfl);clear G;go_wp2;go_roundw
      case rel=>exact⟨k+1,by omega,by go_num,HN,av⟩
      simp[A_];omega
    have bb:k=T.args.length:=by omega
    have j:=Z.o;rw[bb,Ma,dT]at j;have HE:=Z_ j;clear j;go_wp2;go_ret;rw[X.o,<-HE.o];exact⟨rfl,I.o.trans (HB.o.mono I.o.size)⟩
   have X:x_ (bG T=o_):=Z_ (by rw[gg,JJ h2,KC,LA]);have g1:¬(255:Int)<(T.name.size:Int):=by omega
   have g2:(255:Int)<(T.args.length:Int):=by omega
   go_enter Tryz.func147,Tryz.ntmps147;go_wp2;go_ret;rw[X.o,<-D];exact⟨rfl,I.o⟩
  have X:x_ (bG T=o_):=Z_ (by rw[gg,JJ h1,KC]);have g1:(255:Int)<(T.name.size:Int):=by omega
  go_enter Tryz.func147,Tryz.ntmps147;go_wp2;go_ret;rw[X.o,<-D];exact⟨rfl,I.o⟩
end Go.Proofs.YtaalbcfpacpgfaaGreat
namespace Go.Typ
open Go.RowKit Go.Lib Go.Vfs Go.Par
def Gt(a b:ByteArray):Bool:=K4 a.toList b.toList
end Go.Typ
namespace Go.Proofs.YtaalbcfpacpgfaaGreat
open Go.RowKit Go.Lib Go.Vfs Go.Par Go.Typ Go.Shelf
def yD(x:Ex):Bool:=decide (x.name.size<=255)&&aY x.name.data.toList
def ku(x:Ex):Bool:=dn x.ty&&bG x.ty
def fc(xs:List Ex)(k:Nat):Bool:=match xs[k]? with
 |none=>v_
 |some x=>yD x&&((decide (k=0)||Gt (xs.getD (k - 1) x).name x.name)&&ku x)
def aM(xs:List Ex):Bool:=decide (xs.length<=1000)&&(List.range xs.length).all (fc xs)
theorem pD{xs:List Ex}(h:xs.length<=1000)(j:∀i,i<xs.length->fc xs i=v_):aM xs=true:=by
 unfold aM;rw[JR h,Lk,LH];exact λi hi=>j i (Mq.1 hi)
theorem ny{xs:List Ex}{k:Nat}(j:k<xs.length)(D:fc xs k=o_):aM xs=false:=by
 unfold aM;have:(List.range xs.length).all (fc xs)=false:=List.all_eq_false.2 ⟨k,Mq.2 j,by rw[D];decide⟩;rw[this,LA]
theorem rf{xs:List Ex}{k:Nat}(j:k<xs.length):fc xs k=(yD xs[k]&&((decide (k=0)||Gt (xs.getD (k - 1) xs[k]).name xs[k].name)&&ku xs[k])):=by
 unfold fc;rw[w_ j]
theorem pC(xs:List Ex)(v:m_)(w:j_)(hX:bA (·<w.heap.size) w v xs):H_ h_ 117 #[v] w λe w'=>e=k_ (u_ (aM xs))/\n_ w w w':=by
 obtain⟨A,c,rfl,hc,hm⟩:=hX.form;have cb:xs.length<=9223372036854775807:=by simp only[JT]at hm;omega
 have HX:=Z_ hX;clear hX hc hm;by_cases hl:xs.length<=1000
 rotate_left
 ·have D:x_ (aM xs=o_):=Z_ (by unfold aM;rw[JJ hl,KC])
  have g:(1000:Int)<(xs.length:Int):=by omega
  clear hl;go_enter Tryz.func117,Tryz.ntmps117;go_wp2;go_ret;rw[D.o];exact⟨rfl,JG _ _⟩
 have g:¬(1000:Int)<(xs.length:Int):=by omega
 go_enter Tryz.func117,Tryz.ntmps117;go_wp2;clear g
 go_loopw [10] (λiv W=>∃(k:Nat),k<=xs.length/\iv=e_ d_ k/\x_ (∀i,i<k->fc xs i=v_)/\x_ (n_ w w W)) (λiv _=>xs.length - (A_ iv).toNat)
 case atStart=>exact⟨0,by omega,rfl,Z_ λi hi=>by omega,Z_ B_⟩
 obtain⟨k,hk,rfl,HA,HB⟩:=hrel;by_cases ad:k<xs.length
 ·have ak:=HX.o.fl HB.o
  obtain⟨b,off,A',c',rfl,hb,bx,ht,x0,x1,x2,x3,x4⟩:=ak.arg ad;have av:x_ (0<k->wr.cell? ⟨b,off+(k - 1)*5,b_⟩=c_ (g_ (xs.getD (k - 1) xs[k]).name)):=Z_ λh0=>by
   have bb:k - 1<xs.length:=by omega
   obtain⟨b2,b6,_,_,e2,_,_,_,p0,_⟩:=ak.arg bb;injection e2 with e2;injection e2 with eb eo;subst eb eo;rw[s_,w_ bb];exact p0
  have bd:=rf ad;have HF:x_ (fc xs k=o_->aM xs=o_):=Z_ (ny ad);have bB:x_ (fc xs k=v_->∀i,i<k+1->fc xs i=v_):=Z_ λh i hi=>by
   by_cases e:i=k
   ·rw[e];exact h
   exact HA.o i O_
  generalize xs.getD (k - 1) xs[k]=P at*;generalize xs[k]=X at*;have O:=Z_ bd;obtain⟨W2,G⟩:=N_ (wr.alloc (f_ #[g_ X.name,e_ d_ X.ty.kind,e_ d_ X.ty.num,g_ X.ty.name,a_ A' X.ty.args.length c'] 63));have U:n_ wr wr W2:=by rw[G];exact B_.alloc L_ _
  have a1:W2.heap[wr.heap.size]?=c_ (f_ #[g_ X.name,e_ d_ X.ty.kind,e_ d_ X.ty.num,g_ X.ty.name,a_ A' X.ty.args.length c'] 63 (0,0)):=by rw[G];exact r_ _ _
  have I:x_ (n_ w w W2):=Z_ (HB.o.trans (U.mono HB.o.size));have bf:=Z_ (ht.fl U);have bN:=Z_ (wA X.name W2 bx);have bO:x_ (0<k->W2.cell? ⟨b,off+(k - 1)*5,b_⟩=c_ (g_ P.name)):=Z_ λh=>(U.cell (p:=⟨b,off+(k - 1)*5,b_⟩) hb).trans (av.o h)
  have a2:=Z_ a1;obtain⟨z0,z1,z2,z3,z4⟩:=nV a1;rw[G]at z0 z1 z2 z3 z4;clear ht ak bd U a1;by_cases h1:X.name.size<=255
  rotate_left
  ·have D:x_ (aM xs=o_):=Z_ (HF.o (by rw[O.o];unfold yD;rw[JJ h1,KC,KC]))
   have g1:(255:Int)<(X.name.size:Int):=by omega
   clear h1;go_wp2;go_ret;rw[D.o,<-G];exact⟨rfl,I.o⟩
  have g1:¬(255:Int)<(X.name.size:Int):=by omega
  go_wp2_with fail;rw[<-G];clear G g1 z0 z1 z2 z3 z4;refine bN.o.mono ?_;rintro e w3 ⟨z,rfl,hz,rfl⟩;obtain⟨z0,z1,z2,z3,z4⟩:=nV a2.o;by_cases h2:z=1
  rotate_left
  ·have D:x_ (aM xs=o_):=Z_ (HF.o (by
    have bR:aY X.name.data.toList=false:=by
     cases h:aY X.name.data.toList with
     |false=>rfl
     |true=>exact absurd (hz.2 h) h2
    rw[O.o];unfold yD;rw[bR,LA,KC]))
   have g1:(z !=1)=true:=by simp[h2]
   clear hz h2;go_wp2;go_ret;rw[D.o];exact⟨rfl,I.o⟩
  have bg:x_ (yD X=v_):=Z_ (by unfold yD;rw[JR h1,hz.1 h2,Lk]);have g1:(z !=1)=false:=by simp[h2]
  clear hz h2 h1;by_cases V:k=0
  focus
   have Y:x_ (fc xs k=ku X):=Z_ (by rw[O.o,bg.o,JR V];rfl);subst V;go_wp2_with fail
   go_quiet (fail)
   clear g1
  rotate_left
  focus
   obtain⟨j,hj⟩:=N_ (k - 1);have hp:=bO.o O_;rw[<-hj]at hp;have bj:decide ((0:Int)<(k:Int))=true:=JR O_;have bk:decide (0<k)=true:=JR O_;have hsub:(k:Int) - 1=(j:Int):=by omega
   have b0:j<xs.length:=by omega
   have b1:((j:Nat):Int)<(xs.length:Int):=by omega
   clear hj;have J:x_ (fc xs k=(Gt P.name X.name&&ku X)):=Z_ (by rw[O.o,bg.o,JJ V];rfl);clear V;go_wp2_with fail
   go_quiet (fail)
   clear bj bk hsub hp g1 b0 b1;by_cases hq:K4 P.name.toList X.name.toList=v_
   rotate_left
   ·have bm:K4 P.name.toList X.name.toList=false:=by simpa using hq
    have D:x_ (aM xs=o_):=Z_ (HF.o (by rw[J.o];unfold Gt;rw[bm,KC]));rw[bm];clear hq;go_wp2;go_ret;rw[D.o];exact⟨rfl,eM I.o _⟩
   have Y:x_ (fc xs k=ku X):=Z_ (by rw[J.o];unfold Gt;rw[hq,Lk]);rw[hq];clear J hq
  all_goals
   obtain⟨W4,ba⟩:=N_ (w3.drewN nq);have K:n_ w3 w3 W4:=by rw[ba];exact eM B_ _
   have bn:x_ (n_ w w W4):=Z_ (I.o.trans (K.mono I.o.size));have bo:=Z_ (yh X.ty _ W4 (bf.o.fl K));have b3:=Z_ (bf.o.fl K);have M:=Z_ ((K.block _ (ao a2.o)).trans a2.o);rw[<-ba];clear K ba;unfold cn at bo;obtain⟨u0,u1,u2,u3,u4⟩:=nV M.o;go_wp2_with fail;refine bo.o.mono ?_;rintro e w5 ⟨rfl,Z⟩;have HB5:x_ (n_ w w w5):=Z_ (bn.o.trans (Z.mono bn.o.size));have bp:=Z_ (Cg X.ty _ w5 (b3.o.fl Z));obtain⟨q0,q1,q2,q3,q4⟩:=nV ((Z.block _ (ao M.o)).trans M.o);unfold cn at bp;clear Z u0 u1 u2 u3 u4;cases hc:dn X.ty with
   |false=>
    have D:x_ (aM xs=o_):=Z_ (HF.o (by rw[Y.o];unfold ku;rw[hc,KC]));clear hc;go_wp2;go_ret;rw[D.o];exact⟨rfl,HB5.o⟩
   |true=>
    have b5:=Z_ hc;clear hc;go_wp2_with fail;refine bp.o.mono ?_;rintro e w6 ⟨rfl,bt⟩;have HB6:x_ (n_ w w w6):=Z_ (HB5.o.trans (bt.mono HB5.o.size));clear bt q0 q1 q2 q3 q4;cases hs:bG X.ty with
    |false=>
     have D:x_ (aM xs=o_):=Z_ (HF.o (by rw[Y.o];unfold ku;rw[hs,LA]));clear hs;go_wp2;go_ret;rw[D.o];exact⟨rfl,HB6.o⟩
    |true=>
     have HN:=Z_ (bB.o (by rw[Y.o];unfold ku;rw[hs,b5.o];rfl));clear hs;go_wp2;go_roundw
     case rel=>exact⟨_,by omega,by go_num,HN,HB6⟩
     simp[A_];omega
 have cc:k=xs.length:=by omega
 have D:x_ (aM xs=v_):=Z_ (pD hl λi hi=>HA.o i O_);go_wp2;go_ret;rw[D.o];exact⟨rfl,HB.o⟩
theorem IG:oJ h_ 53 63 5:=mS (b:=72) (z:=JI #[g_ ⟨#[]⟩,e_ d_ 0,e_ d_ 0,g_ ⟨#[]⟩,a_ b_ 0 0]) Tryz.underlying53 K_ (by decide) rfl (by decide)
section
variable{P:K6}(w:j_)
theorem ig{o:L8}{a:Act}{K:Act->j_->Prop}{Q:Exit->Act->j_->Prop}(s x:Operand)(t:Ki)
  (U:o.op=.call {callee:=.builtin .append,args:=#[s,x],argTypes:=#[t,t]})
  (base:Nat) (e:Ki) (k:Nat) (E:oJ P t e k) (v:m_) (n:Nat) (xs:List m_) (hs:a.eval s=v) (I:w.ownsRow base e k v n xs)
  (M:Addr) (m c:Nat) (news:List m_) (hx:a.eval x=a_ (c_ M) m c) (V:news.length=m*k) (D:∀j u,news[j]?=c_ u->w.cell? (M.add j)=c_ u) (h1:∀u∈news,u.oneCell'=v_)
  (O:n+m<=1099511627776) (G:base<=w)
  (h:∀v' w',w'.ownsRow base e k v' (n+m) (xs++news)->w.grownBy w' v.ownBlock->(v'.ownBlock=v.ownBlock\/v'.ownBlock=c_ w.heap.size)->K (a.put o.dst v') w'):o.wp P a w K Q:=by
 obtain⟨v',w',J,h2,X,Y⟩:=xg (P:=P) w base t o.type e k E v n xs I M m c news V D h1 O G;unfold Oper.wp execOp;simp only[U,resolve,invoke,builtin,MM,MC,LS,L9,Ks,Lf,hs,hx,J];exact h v' w' h2 X Y
end
theorem E9(s:ByteArray)(k num:Int)(j:ByteArray)(A:Option Addr)(n c:Nat):∀u∈[g_ s,e_ d_ k,e_ d_ num,g_ j,a_ A n c],u.oneCell'=true:=by
 intro u hu;simp at hu;rcases hu with rfl|rfl|rfl|rfl|rfl<;>rfl
def eU(T:Ty):Prop:=∀x∈T.list,x.args.length<=2513169434843
theorem eU.self{T:Ty}(h:eU T):T.args.length<=2513169434843:=h T (by rw[T.dd];exact Lt)
theorem eU.arg{T:Ty}(h:eU T){i:Nat}(hi:i<T.args.length):eU T.args[i]:=λx hx=>h x (by
 rw[T.dd];exact Lj _ (fY (JB hi) hx))
theorem eU.m8{T:Ty}(h:T.parts<=2513169434843):eU T:=by
 intro x hx;have key:∀T:Ty,∀x∈T.list,x.parts<=T.parts:=by
  intro T
  induction T using Ty.ind with
  |h T D=>
   intro x hx;rw[T.dd]at hx;rcases JL.1 hx with rfl|hx
   ·exact Kh _
   have G:∀ts:List Ty,(∀t∈ts,∀x∈t.list,x.parts<=t.parts)->∀x∈di ts,x.parts<=aT ts:=by
    intro ts
    induction ts with
    |nil=>intro _ x hx;simp[di]at hx
    |cons t ts j=>
     intro h x hx;rw[di]at hx;rw[aT];rcases KI.1 hx with hx|hx
     ·have:=h t (by simp) x hx;omega
     have:=j (λy I=>h y (by simp[I])) x hx;omega
   have:=G T.args (λt J=>by obtain⟨i,hi,rfl⟩:=J4 J;exact D i hi) x hx;rw[T.parts_eq];omega
 have h1:=key T x hx;have h2:=eO x.args;rw[x.parts_eq]at h1;omega
structure CN(P:K6)(t e:Ki)(k b:Nat):Prop where
 CK:P.underlying t=c_ (.slice e)
 info:∃i z,P.info? e=c_ i/\i.zero=c_ z/\i.size=k/\i.bytes=b/\z.cells.size=k
 pos:0<k
theorem Iw:CN h_ 59 61 4 56:=by
 refine⟨Tryz.underlying59,?_,by decide⟩;have h:(h_.info? 61).map (λi=>(i.zero,i.size,i.bytes))=c_ (c_ (JI #[e_ d_ 0,e_ d_ 0,g_ ⟨#[]⟩,a_ b_ 0 0]),4,56):=by kernel_rfl
 obtain⟨i,h1,h2,j,D⟩:=info_parts h;exact⟨i,_,h1,h2,j,D,rfl⟩
theorem nN{P:K6}(w:j_){ops:Array L8}{rest:List L8}{o:L8}{a:Act}{Q:Exit->Act->j_->Prop}(K:o.guard=b_)(s x:Operand)(t:Ki)
  (Y:o.op=.call {callee:=.builtin .append,args:=#[s,x],argTypes:=#[t,t]})
  (base:Nat) (e:Ki) (k b:Nat) (E:CN P t e k b) (v:m_) (n:Nat) (xs:List m_) (hs:a.eval s=v) (I:w.ownsRow base e k v n xs)
  (M:Addr) (m c:Nat) (news:List m_) (hx:a.eval x=a_ (c_ M) m c) (Z:news.length=m*k) (D:∀j u,news[j]?=c_ u->w.cell? (M.add j)=c_ u) (h1:∀u∈news,u.oneCell'=v_)
  (hm:n+m<=JT) (O:(n+m)*b<=140737488355328) (G:base<=w)
  (h:∀v' w',w'.ownsRow base e k v' (n+m) (xs++news)->w.grownBy w' v.ownBlock->(v'.ownBlock=v.ownBlock\/v'.ownBlock=c_ w.heap.size)->wpList P ops Q rest (a.put o.dst v') w'):wpList P ops Q (o::rest) a w:=
 wpList_plain K λ_ hK=>by
  obtain⟨i,z,hi,hz,U,V,X⟩:=E.info;obtain⟨v',w',J,h2,h3,_,h4⟩:=MJ (P:=P) w base t o.type e i z k b E.CK hi hz U V X E.pos v n xs I M m c news Z D h1 hm O G;unfold Oper.wp execOp;simp only[Y,resolve,invoke,builtin,MM,MC,LS,L9,Ks,Lf,hs,hx,J];exact hK _ _ (h v' w' h2 h3 h4)
end Go.Proofs.YtaalbcfpacpgfaaGreat
namespace Go.Typ
open Go.RowKit Go.Lib Go.Vfs Go.Par
def gN(W:j_)(b:Nat):Prop:=∃cs t,W.heap[b]?=c_ (f_ cs t (0,0))
variable{S S':Nat->Prop}{w w':j_}{v:m_}{e L B:Nat}{us:List m_}
theorem gN.ae{W W':j_}{b:Nat}(h:gN W b)(j:W'.heap[b]?=W.heap[b]?):gN W' b:=by
 obtain⟨cs,t,h⟩:=h;exact⟨cs,t,j.trans h⟩
def oK(S:Nat->Prop)(W:j_)(v:m_)(T:Ty):Prop:=aG (λg=>S g/\gN W g) W v T
def gB(S:Nat->Prop)(W:j_)(v:m_)(x:Ex):Prop:=fA (λg=>S g/\gN W g) W v x
def iG(S:Nat->Prop)(W:j_)(v:m_)(xs:List Ex):Prop:=bA (λg=>S g/\gN W g) W v xs
theorem oK.ae{x:Ty}(h:oK S w v x)(D:∀b,S b->S' b/\w'.heap[b]?=w.heap[b]?):oK S' w' v x:=
 aG.ae h λb j=>⟨⟨(D b j.1).1,j.2.ae (D b j.1).2⟩,(D b j.1).2⟩
theorem gB.ae{x:Ex}(h:gB S w v x)(D:∀b,S b->S' b/\w'.heap[b]?=w.heap[b]?):gB S' w' v x:=
 fA.ae h λb j=>⟨⟨(D b j.1).1,j.2.ae (D b j.1).2⟩,(D b j.1).2⟩
theorem iG.ae{x:List Ex}(h:iG S w v x)(D:∀b,S b->S' b/\w'.heap[b]?=w.heap[b]?):iG S' w' v x:=
 bA.ae h λb j=>⟨⟨(D b j.1).1,j.2.ae (D b j.1).2⟩,(D b j.1).2⟩
theorem oK.at_{x:Ty}(h:oK S w v x):aG S w v x:=aG.sub h λ_ j=>j.1
theorem iG.at_{x:List Ex}(h:iG S w v x):bA S w v x:=bA.sub h λ_ j=>j.1
theorem az.clean{α:Type}{k:Nat}{R:(Nat->Prop)->j_->m_->α->Prop}{xs:List α}(h:az e k R L B w xs v us){g:Nat}(j:v.ownBlock=c_ g):gN w g:=by
 rcases h.own.2 with⟨D,G⟩|⟨J,cap,cur,D,_,I,_⟩
 ·rw[D]at j;cases j
 rw[D]at j;cases j;exact⟨cur,_,I⟩
theorem az.Jl{ts:List Ty}(h:az e 4 oK L B w ts v us)(k num:Int)(name:ByteArray)(hn:name.size<=9223372036854775807):
  ∃A c,v=a_ A ts.length c/\oK (λg=>(L<=g\/B<=g)/\g<w.heap.size) w (cn k num name A ts.length c) (.mk k num name ts):=by
 have D:∀g,v.ownBlock=c_ g->gN w g:=λg e=>h.clean e
 obtain⟨A,c,rfl,hc,hm⟩:=h.form;refine⟨A,c,rfl,.mk k num name ts A c (λi=>us.getD i (u_ o_)) hc hm hn (λh0=>?_) (λi hi=>oK.ae (h.each i hi) λg J=>⟨⟨.inl J.1,J.2.1⟩,rfl⟩)⟩;obtain⟨g,M,e,O,G,I⟩:=h.cells h0;injection e with K _ _;refine⟨g,0,K,⟨⟨.inr O,G⟩,D g (by rw[K];rfl)⟩,λi hi j hj=>?_⟩;rw[I i hi j hj];obtain⟨U,M,e,_⟩:=(oK.at_ (h.each i hi)).form;rw[e];have:j=0\/j=1\/j=2\/j=3:=by omega
 rcases this with rfl|rfl|rfl|rfl<;>rfl
theorem az.Hb{xs:List Ex}(h:az e 5 gB L B w xs v us):iG (λg=>(L<=g\/B<=g)/\g<w.heap.size) w v xs:=by
 have D:∀g,v.ownBlock=c_ g->gN w g:=λg e=>h.clean e
 obtain⟨A,c,rfl,hc,hm⟩:=h.form;refine⟨A,c,rfl,hc,hm,λi=>us.getD i (u_ o_),λh0=>?_,λi hi=>gB.ae (h.each i hi) λg J=>⟨⟨.inl J.1,J.2.1⟩,rfl⟩⟩;obtain⟨g,M,e,O,G,I⟩:=h.cells h0;injection e with K _ _;refine⟨g,0,K,⟨⟨.inr O,G⟩,D g (by rw[K];rfl)⟩,λi hi j hj=>?_⟩;rw[I i hi j hj];show _=c_ (Gl (us.getD i (u_ o_)) j);obtain⟨U,M,e,_⟩:=h.each i hi;rw[e];have:j=0\/j=1\/j=2\/j=3\/j=4:=by omega
 rcases this with rfl|rfl|rfl|rfl|rfl<;>rfl
end Go.Typ
namespace Go.Proofs.YtaalbcfpacpgfaaGreat
open Go.RowKit Go.Lib Go.Vfs Go.Par Go.Typ Go.Shelf
theorem qI(T:Ty):∀(v:m_) (w:j_),aG (·<w.heap.size) w v T->eU T->
  H_ h_ 135 #[v] w λe w'=>∃A c,e=k_ (cn T.kind T.num T.name A T.args.length c)/\oK (λg=>w.heap.size<=g/\g<w'.heap.size) w' (cn T.kind T.num T.name A T.args.length c) T/\n_ w w w':=by
 induction T using Ty.ind with
 |h T ih=>
  intro v w hT hp;have IH:=Z_ ih;clear ih;obtain⟨A,c,rfl,hc,hm,hn⟩:=hT.form;have bx:T.args.length<=2513169434843:=hp.self;obtain⟨W1,G⟩:=N_ ((w.alloc (f_ #[e_ d_ T.kind,e_ d_ T.num,g_ T.name,a_ A T.args.length c] 61)).alloc (f_ #[e_ d_ 0,e_ d_ 0,g_ ⟨#[]⟩,a_ b_ 0 0] 61));have hL:ky w W1 w T A c:=by
   refine⟨?_,by rw[G];simp;omega,Kh _,by rw[G];exact(B_.alloc L_ _).alloc (by simp) _,hT⟩;rw[G,z_ _ _ _ (by simp)];exact r_ _ _
  have j:W1.heap[w.heap.size+1]?=c_ (f_ #[e_ d_ 0,e_ d_ 0,g_ ⟨#[]⟩,a_ b_ 0 0] 61 (0,0)):=by
   rw[G];have:=r_ (w.alloc (f_ #[e_ d_ T.kind,e_ d_ T.num,g_ T.name,a_ A T.args.length c] 61)) (f_ #[e_ d_ 0,e_ d_ 0,g_ ⟨#[]⟩,a_ b_ 0 0] 61);simpa using this
  have K:W1.heap.size=w.heap.size+2:=by rw[G];simp
  have HL:=Z_ hL;have bf:=Z_ j;have HP:=Z_ hp;have M:=Z_ K;clear hT hL j hp K;unfold cn;go_enter Tryz.func135,Tryz.ntmps135;go_wp2;rw[<-G]
  go_loopw [3,4] (λsv iv W=>∃(k:Nat) (us:List m_),k<=T.args.length/\iv=e_ d_ k/\x_ (az 61 4 oK W1 W1 W (T.args.take k) sv us)/\x_ (n_ W1 W1 W)) (λ_ iv _=>T.args.length - (A_ iv).toNat)
  case atStart=>
   refine⟨0,[],by omega,rfl,Z_ ?_,Z_ (B_.alloc L_ _)⟩;have h:=az.made (e:=61) (k:=4) (R:=oK) (L:=W1.heap.size) (B:=W1.heap.size) W1 L_;rw[M.o]at h⊢;exact h
  obtain⟨k,us,hk,rfl,HR,J⟩:=hrel;obtain⟨y0,y1,y2,y3⟩:=aX (HL.o.Gp J.o);obtain⟨q0,q1,q2,q3⟩:=aC (HL.o.Gp J.o);by_cases I:k<T.args.length
  ·obtain⟨b,off,A',c',rfl,hb,ht,x0,x1,x2,x3⟩:=(HL.o.Iu J.o).arg I
   have O:=IH.o k I _ wr ht (HP.o.arg I);have bg:x_ (T.args.take (k+1)=T.args.take k++[T.args[k]]):=Z_ (by rw[y_ I]);have ak:(T.args.take k).length=k:=by rw[JN];omega
   have av:=Z_ ak;clear ht ak;generalize T.args[k]=U at*;unfold cn at O;have bj:=Z_ O;have bk:=J.o.size;clear O;go_wp2_with fail;refine bj.o.mono ?_;rintro e w2 ⟨A2,c2,rfl,hu,V⟩;have X:=az.below (R:=oK) oK.ae HR.o V;have bm:=Z_ X;have HU:=Z_ hu;have D:=X.own;rw[av.o]at D;obtain⟨bn,a1⟩:=N_ (us.flatMap cX);rw[<-a1]at D;have bB:=V.size;clear X hu;go_wp2_with (at_builtin;refine nN _ rfl _ _ _ rfl W1 _ 4 56 Iw _ k bn rfl (Kf D _) ⟨w2,0,b_⟩ 1 1 [e_ d_ U.kind,e_ d_ U.num,g_ U.name,a_ A2 U.args.length c2] rfl rfl (bF _ _ _) (yE _ _ _ _ _ _) (by simp only[JT];omega) O_ (by simp;omega) ?_;intro v3 w3 Y a2 ba);go_roundw
   case rel=>
    refine⟨k+1,us++[JI #[e_ d_ U.kind,e_ d_ U.num,g_ U.name,a_ A2 U.args.length c2]],by omega,by go_num,Z_ ?_,Z_ ?_⟩
    ·rw[bg.o]
     refine az.next (R:=oK) oK.ae bm.o HU.o (λg hg=>⟨by omega,hg.2,λe=>?_⟩) rfl _ ?_ a2 ba
     ·have:=HR.o.lt g e;omega
     rw[av.o,<-a1];exact Y
    exact bK (J.o.trans (V.mono bk)) O_ _ a2 (λg e=>(D.lt g e).1)
   simp[A_];omega
  have bo:k=T.args.length:=by omega
  subst bo;have hr:=HR.o;rw[JO]at hr;obtain⟨A2,c2,rfl,bb⟩:=hr.Jl T.kind T.num T.name hn;have j:wr.heap[w.heap.size+1]?=c_ (f_ #[e_ d_ 0,e_ d_ 0,g_ ⟨#[]⟩,a_ b_ 0 0] 61 (0,0)):=by
   rw[J.o.block _ (by have:=M.o;omega)];exact bf.o
  obtain⟨r0,r1,r2,r3⟩:=aX j;obtain⟨s0,s1,s2,s3⟩:=aC j;have bd:=Z_ bb;have bp:=Z_ j;clear bb hr j;go_wp2;obtain⟨Wf,Z⟩:=N_ ((((((wr.setCell ⟨w,3,b_⟩ (a_ A2 T.args.length c2)).setCell ⟨w+1,0,b_⟩ (e_ d_ T.kind)).setCell ⟨w+1,1,b_⟩ (e_ d_ T.num)).setCell ⟨w+1,2,b_⟩ (g_ T.name)).setCell ⟨w+1,3,b_⟩ (a_ A2 T.args.length c2)));have ad:Kept (λg=>g=w.heap.size\/g=w.heap.size+1) wr Wf:=by
   rw[Z];exact Aa ((Kept.refl _ _).setCell (p:=⟨w,3,b_⟩) (.inl (.inl rfl)) _) (.inl (.inr rfl))
  have bt:Wf.heap[w.heap.size+1]?=c_ (f_ #[e_ d_ T.kind,e_ d_ T.num,g_ T.name,a_ A2 T.args.length c2] 61 (0,0)):=by
   rw[Z];refine Fg (u0:=e_ d_ 0) (u1:=e_ d_ 0) (u2:=g_ ⟨#[]⟩) (u3:=a_ b_ 0 0) ?_;rw[JZ _ _ _ _ (by simp)];exact bp.o
  have K:=M.o;have bN:=J.o.size;have bO:=ad.size;rw[<-Z];obtain⟨f0,f1,f2,f3⟩:=aX bt;refine C_ (v:=JI #[e_ d_ T.kind,e_ d_ T.num,g_ T.name,a_ A2 T.args.length c2]) (by simp[results,Tryz.results135,go_sem,f0,f1,f2,f3]) rfl ?_;refine⟨A2,c2,rfl,?_,(HL.o.all J.o).trans (ad.below O_ (λg hg=>by omega))⟩;rw[<-T.eta]at bd;exact oK.ae bd.o λg hg=>⟨by omega,ad.block g hg.2 O_⟩
theorem ub(T:Ty):∀(v:m_) (w:j_),aG (·<w.heap.size) w v T->eU T->
  H_ h_ 107 #[v] w λe w'=>∃A c,e=k_ (cn T.kind T.num T.name A T.args.length c)/\oK (λg=>w.heap.size<=g/\g<w'.heap.size) w' (cn T.kind T.num T.name A T.args.length c) T/\n_ w w w':=by
 induction T using Ty.ind with
 |h T ih=>
  intro v w hT hp;have IH:=Z_ ih;clear ih;obtain⟨A,c,rfl,hc,hm,hn⟩:=hT.form;have b0:T.args.length<=2513169434843:=hp.self;obtain⟨W1,D⟩:=N_ ((w.alloc (f_ #[e_ d_ T.kind,e_ d_ T.num,g_ T.name,a_ A T.args.length c] 61)).alloc (f_ #[e_ d_ 0,e_ d_ 0,g_ ⟨#[]⟩,a_ b_ 0 0] 61));have hL:ky w W1 w T A c:=by
   refine⟨?_,by rw[D];simp;omega,Kh _,by rw[D];exact(B_.alloc L_ _).alloc (by simp) _,hT⟩;rw[D,z_ _ _ _ (by simp)];exact r_ _ _
  have j:W1.heap[w.heap.size+1]?=c_ (f_ #[e_ d_ 0,e_ d_ 0,g_ ⟨#[]⟩,a_ b_ 0 0] 61 (0,0)):=by
   rw[D];have:=r_ (w.alloc (f_ #[e_ d_ T.kind,e_ d_ T.num,g_ T.name,a_ A T.args.length c] 61)) (f_ #[e_ d_ 0,e_ d_ 0,g_ ⟨#[]⟩,a_ b_ 0 0] 61);simpa using this
  have V:W1.heap.size=w.heap.size+2:=by rw[D];simp
  have HL:=Z_ hL;have bn:=Z_ j;have HP:=Z_ hp;have a2:=Z_ V;obtain⟨y0,y1,y2,y3⟩:=aX hL.box;rw[D]at y0 y1 y2 y3;clear hT hL j hp V;unfold cn;go_enter Tryz.func107,Tryz.ntmps107;go_wp2;rw[<-D];clear y0 y1 y2 y3 D
  go_loopw [3,9] (λsv iv W=>∃(k:Nat) (us:List m_),k<=T.args.length/\iv=e_ d_ k/\x_ (az 61 4 oK W1 W1 W (T.args.take k) sv us)/\x_ (n_ W1 W1 W)) (λ_ iv _=>T.args.length - (A_ iv).toNat)
  case atStart=>exact⟨0,[],by omega,rfl,Z_ (az.nil W1),Z_ B_⟩
  obtain⟨k,us,hk,rfl,HR,X⟩:=hrel;by_cases K:k<T.args.length
  ·obtain⟨b,off,A',c',rfl,hb,ht,x0,x1,x2,x3⟩:=(HL.o.Iu X.o).arg K
   obtain⟨W2,I⟩:=N_ (wr.alloc (f_ #[e_ d_ T.args[k].kind,e_ d_ T.args[k].num,g_ T.args[k].name,a_ A' T.args[k].args.length c'] 61));have M:n_ wr wr W2:=by rw[I];exact B_.alloc L_ _
   have Y:=IH.o k K _ W2 (ht.fl M) (HP.o.arg K);obtain⟨z0,z1,z2,z3⟩:=aX (show W2.heap[wr.heap.size]?=c_ (f_ #[e_ d_ T.args[k].kind,e_ d_ T.args[k].num,g_ T.args[k].name,a_ A' T.args[k].args.length c'] 61 (0,0)) by rw[I];exact r_ _ _);have bo:x_ (T.args.take (k+1)=T.args.take k++[T.args[k]]):=Z_ (by rw[y_ K]);have ba:(T.args.take k).length=k:=by rw[JN];omega
   have bb:=Z_ ba;have O:=Z_ (az.below (R:=oK) oK.ae HR.o M);have bd:x_ (n_ W1 W1 W2):=Z_ (X.o.trans (M.mono X.o.size));have bp:=bd.o.size;clear ht ba M;generalize T.args[k]=U at*;unfold cn at Y;have bt:=Z_ Y;rw[I]at z0 z1 z2 z3;clear Y;go_wp2_with fail;rw[<-I];clear I z0 z1 z2 z3;refine bt.o.mono ?_;rintro e w2 ⟨A2,c2,rfl,hu,Z⟩;have ad:=az.below (R:=oK) oK.ae O.o Z;have bx:=Z_ ad;have HU:=Z_ hu;have G:=ad.own;rw[bb.o]at G;obtain⟨bB,bf⟩:=N_ (us.flatMap cX);rw[<-bf]at G;have b1:=Z.size;clear ad hu;go_wp2_with (at_builtin;refine nN _ rfl _ _ _ rfl W1 _ 4 56 Iw _ k bB rfl (Kf G _) ⟨w2,0,b_⟩ 1 1 [e_ d_ U.kind,e_ d_ U.num,g_ U.name,a_ A2 U.args.length c2] rfl rfl (bF _ _ _) (yE _ _ _ _ _ _) (by simp only[JT];omega) O_ (by simp;omega) ?_;intro v3 w3 ak bg bj);go_roundw
   case rel=>
    refine⟨k+1,us++[JI #[e_ d_ U.kind,e_ d_ U.num,g_ U.name,a_ A2 U.args.length c2]],by omega,by go_num,Z_ ?_,Z_ ?_⟩
    ·rw[bo.o]
     refine az.next (R:=oK) oK.ae bx.o HU.o (λg hg=>⟨by omega,hg.2,λe=>?_⟩) rfl _ ?_ bg bj
     ·have:=O.o.lt g e;omega
     rw[bb.o,<-bf];exact ak
    exact bK (bd.o.trans (Z.mono bp)) O_ _ bg (λg e=>(G.lt g e).1)
   simp[A_];omega
  have bN:k=T.args.length:=by omega
  subst bN;have hr:=HR.o;rw[JO]at hr;obtain⟨A2,c2,rfl,bk⟩:=hr.Jl T.kind T.num T.name hn;have J:=HL.o.Gp X.o;have j:wr.heap[w.heap.size+1]?=c_ (f_ #[e_ d_ 0,e_ d_ 0,g_ ⟨#[]⟩,a_ b_ 0 0] 61 (0,0)):=by
   rw[X.o.block _ (by have:=a2.o;omega)];exact bn.o
  obtain⟨y0,y1,y2,y3⟩:=aX J;obtain⟨q0,q1,q2,q3⟩:=aC J;obtain⟨r0,r1,r2,r3⟩:=aX j;obtain⟨s0,s1,s2,s3⟩:=aC j;have bm:=Z_ bk;have bO:=Z_ j;clear bk hr j J;go_wp2;obtain⟨Wf,av⟩:=N_ ((((((wr.setCell ⟨w,3,b_⟩ (a_ A2 T.args.length c2)).setCell ⟨w+1,0,b_⟩ (e_ d_ T.kind)).setCell ⟨w+1,1,b_⟩ (e_ d_ T.num)).setCell ⟨w+1,2,b_⟩ (g_ T.name)).setCell ⟨w+1,3,b_⟩ (a_ A2 T.args.length c2)));have a1:Kept (λg=>g=w.heap.size\/g=w.heap.size+1) wr Wf:=by
   rw[av];exact Aa ((Kept.refl _ _).setCell (p:=⟨w,3,b_⟩) (.inl (.inl rfl)) _) (.inl (.inr rfl))
  have bR:Wf.heap[w.heap.size+1]?=c_ (f_ #[e_ d_ T.kind,e_ d_ T.num,g_ T.name,a_ A2 T.args.length c2] 61 (0,0)):=by
   rw[av];refine Fg (u0:=e_ d_ 0) (u1:=e_ d_ 0) (u2:=g_ ⟨#[]⟩) (u3:=a_ b_ 0 0) ?_;rw[JZ _ _ _ _ (by simp)];exact bO.o
  have V:=a2.o;have b2:=X.o.size;have b3:=a1.size;rw[<-av];obtain⟨f0,f1,f2,f3⟩:=aX bR;refine C_ (v:=JI #[e_ d_ T.kind,e_ d_ T.num,g_ T.name,a_ A2 T.args.length c2]) (by simp[results,Tryz.results107,go_sem,f0,f1,f2,f3]) rfl ?_;refine⟨A2,c2,rfl,?_,(HL.o.all X.o).trans (a1.below O_ (λg hg=>by omega))⟩;rw[<-T.eta]at bm;exact oK.ae bm.o λg hg=>⟨by omega,a1.block g hg.2 O_⟩
theorem mO(xs:List Ex)(hp:∀x∈xs,eU x.ty)(v:m_)(w:j_)(hX:bA (·<w.heap.size) w v xs)(hl:xs.length<=1000000):
  H_ h_ 108 #[v] w λe w'=>∃v',e=k_ v'/\iG (λg=>w.heap.size<=g/\g<w'.heap.size) w' v' xs/\n_ w w w':=by
 obtain⟨A,c,rfl,hc,hm⟩:=hX.form;have HX:=Z_ hX;have HP:=Z_ hp;obtain⟨W1,J⟩:=N_ (w.alloc (f_ #[] 63));have av:n_ w w W1:=by rw[J];exact B_.alloc L_ _
 have bp:=Z_ av;have bt:x_ (az 63 5 gB w w W1 [] (a_ (c_ ⟨w,0,b_⟩) 0 0) []):=Z_ (by rw[J];exact az.made w L_);clear hX hc hm hp av;go_enter Tryz.func108,Tryz.ntmps108;go_wp2;rw[<-J];clear J
 go_loopw [3,4] (λsv iv W=>∃(k:Nat) (us:List m_),k<=xs.length/\iv=e_ d_ k/\x_ (az 63 5 gB w w W (xs.take k) sv us)/\x_ (n_ w w W)) (λ_ iv _=>xs.length - (A_ iv).toNat)
 case atStart=>exact⟨0,[],by omega,rfl,bt,bp⟩
 obtain⟨k,us,hk,rfl,HR,HB⟩:=hrel;by_cases U:k<xs.length
 ·obtain⟨b,off,A',c',rfl,hb,a1,a2,x0,x1,x2,x3,x4⟩:=(HX.o.ae (S':=(·<w.heap.size)) λg V=>⟨V,HB.o.block g V⟩).arg U
  have b3:=HB.o.size;have ht:=a2.sub (S':=(·<wr.heap.size)) λg (V:g<w)=>by omega
  clear a2;have hd:n_ wr wr wr.drew:=(JG wr _).drew;have Y:=qI xs[k].ty _ wr.drew (ht.fl hd) (HP.o xs[k] (JB U));have bx:x_ (xs.take (k+1)=xs.take k++[xs[k]]):=Z_ (by rw[y_ U]);have ba:(xs.take k).length=k:=by rw[JN];omega
  have bb:=Z_ ba;have bB:=Z_ a1;have bN:=Z_ (az.below (R:=gB) gB.ae HR.o hd);have bd:x_ (n_ w w wr.drew):=Z_ (HB.o.trans (hd.mono HB.o.size));have bf:=bd.o.size;have G:b<w:=hb;have M:x_ (∀W',n_ w wr W'->W'.cell? ⟨b,off+k*5,b_⟩=c_ (g_ xs[k].name)/\W'.cell? ⟨b,off+k*5+1,b_⟩=c_ (e_ d_ xs[k].ty.kind)/\W'.cell? ⟨b,off+k*5+2,b_⟩=c_ (e_ d_ xs[k].ty.num)/\W'.cell? ⟨b,off+k*5+3,b_⟩=c_ (g_ xs[k].ty.name)/\W'.cell? ⟨b,off+k*5+4,b_⟩=c_ (a_ A' xs[k].ty.args.length c')):=
   Z_ λW' h=>⟨(h.cell (p:=⟨_,_,b_⟩) G).trans x0,(h.cell (p:=⟨_,_,b_⟩) G).trans x1,(h.cell (p:=⟨_,_,b_⟩) G).trans x2,(h.cell (p:=⟨_,_,b_⟩) G).trans x3,(h.cell (p:=⟨_,_,b_⟩) G).trans x4⟩
  have bg:x_ (n_ w wr wr.drew):=Z_ B_.drew;have j:=Z_ (M.o wr.drew bg.o);clear ht ba hd a1 G;generalize xs[k]=X at*;unfold cn at Y;have bO:=Z_ Y;clear Y;go_wp2_with fail;refine KE (S:=(λw2:j_=>w2.cell? ⟨b,off+k*5,b_⟩=c_ (g_ X.name)/\w2.cell? ⟨b,off+k*5+1,b_⟩=c_ (e_ d_ X.ty.kind)/\w2.cell? ⟨b,off+k*5+2,b_⟩=c_ (e_ d_ X.ty.num)/\w2.cell? ⟨b,off+k*5+3,b_⟩=c_ (g_ X.ty.name)/\w2.cell? ⟨b,off+k*5+4,b_⟩=c_ (a_ A' X.ty.args.length c'))) K_ ?_;refine fy 0 12 u3 j.o ?_;refine fy 1 13 (a_ (c_ ⟨b,off,b_⟩) xs.length c) j.o ?_;refine fy 2 14 (e_ d_ k) j.o ?_;refine fy 3 15 (i_ (c_ ⟨b,off+k*5,b_⟩)) j.o ?_;refine fy 4 16 (i_ (c_ ⟨b,off+k*5,b_⟩)) j.o ?_;refine fy 5 17 (g_ X.name) j.o ?_;refine fy 6 18 (a_ (c_ ⟨b,off,b_⟩) xs.length c) j.o ?_;refine fy 7 19 (e_ d_ k) j.o ?_;refine fy 8 20 (i_ (c_ ⟨b,off+k*5,b_⟩)) j.o ?_;refine fy 9 21 (i_ (c_ ⟨b,off+k*5+1,b_⟩)) j.o ?_;refine fy 10 22 (JI #[e_ d_ X.ty.kind,e_ d_ X.ty.num,g_ X.ty.name,a_ A' X.ty.args.length c']) j.o ?_;refine ag 11 λK hK=>?_
  go_simp;refine bO.o.mono ?_;rintro e w2 ⟨A2,c2,rfl,hu,O⟩;have Z:=az.below (R:=gB) gB.ae bN.o O;have bR:=Z_ Z;have HU:x_ (gB (λg=>wr.heap.size<=g/\g<w2.heap.size) w2 (zW X A2 c2) X):=Z_ ⟨A2,c2,rfl,bB.o,hu⟩;have D:=Z.own;rw[bb.o]at D;obtain⟨b0,bj⟩:=N_ (us.flatMap cX);rw[<-bj]at D;have b5:wr.heap.size<=w2.heap.size:=O.size;have bk:x_ (n_ w w w2):=Z_ (bd.o.trans (O.mono bf));have I:n_ w wr w2:=bg.o.trans (O.mono bf);have bm:=Z_ (M.o w2 I);clear Z hu;refine kk hK bm.o ?_;refine fy 12 24 (JI #[g_ X.name,e_ d_ X.ty.kind,e_ d_ X.ty.num,g_ X.ty.name,a_ A2 X.ty.args.length c2]) bm.o ?_;refine ag 13 λK hK=>?_
  go_simp;have b1:=Z_ (M.o (w2.alloc (f_ #[g_ X.name,e_ d_ X.ty.kind,e_ d_ X.ty.num,g_ X.ty.name,a_ A2 X.ty.args.length c2] 63)) (I.alloc O_ _));refine kk hK b1.o ?_;refine ag 14 λK hK=>?_
  refine ig _ (.tmp 12) (.tmp 25) 53 rfl w 63 5 IG _ k b0 rfl (Kf D _) ⟨w2,0,b_⟩ 1 1 [g_ X.name,e_ d_ X.ty.kind,e_ d_ X.ty.num,g_ X.ty.name,a_ A2 X.ty.args.length c2] rfl rfl (bF _ _ _) (E9 _ _ _ _ _ _ _) O_ (by simp;omega) (λv3 w3 ad ak bn=>?_);have bo:=Z_ (M.o w3 (bK I O_ _ ak (λg e=>(D.lt g e).1)));refine kk hK bo.o ?_;refine fy 15 3 v3 bo.o ?_;refine J6 K_ ?_ _;go_wp2;go_roundw
  case rel=>
   refine⟨k+1,us++[zW X A2 c2],by omega,by go_num,Z_ ?_,Z_ ?_⟩
   ·rw[bx.o]
    refine az.next (R:=gB) gB.ae bR.o HU.o (λg V=>⟨by omega,V.2,λe=>?_⟩) rfl _ ?_ ak bn
    ·have:=HR.o.lt g e;omega
    rw[bb.o,<-bj];exact ad
   exact bK bk.o O_ _ ak (λg e=>(D.lt g e).1)
  simp[A_];omega
 have b2:k=xs.length:=by omega
 have hr:=HR.o;rw[b2,JO]at hr;have HE:=Z_ hr.Hb;clear hr;go_wp2;go_ret;exact⟨_,rfl,iG.ae HE.o λg V=>⟨⟨by omega,V.2⟩,rfl⟩,HB.o⟩
end Go.Proofs.YtaalbcfpacpgfaaGreat
namespace Go.Typ
open Classical in
noncomputable def jH (xs ys:List Ex):Bool:=decide (xs=ys)
theorem rQ{xs j:List Ex}(h:xs=j):jH xs j=true:=by simp[jH,h]
theorem pH{xs j:List Ex}(h:¬xs=j):jH xs j=false:=by simp[jH,h]
theorem Cd{xs j:List Ex}:jH xs j=v_↔xs=j:=by simp[jH]
theorem yv{xs j:List Ex}{k:Nat}(h1:k<xs.length)(h2:k<j.length)(h:¬xs[k]=j[k]):¬xs=j:=λe=>h (by subst e;rfl)
end Go.Typ
namespace Go.Proofs.YtaalbcfpacpgfaaGreat
open Go.RowKit Go.Lib Go.Vfs Go.Par Go.Typ Go.Shelf
theorem pV(xs D:List Ex)(u v:m_)(w:j_)(hX:bA (·<w.heap.size) w u xs)(hY:bA (·<w.heap.size) w v D):
  H_ h_ 59 #[u,v] w λe w'=>e=k_ (u_ (jH xs D))/\n_ w w w':=by
 obtain⟨A,c,rfl,hc,hm⟩:=hX.form;obtain⟨A2,c2,rfl,bd,V⟩:=hY.form;have HX:=Z_ hX;have HY:=Z_ hY;have bt:xs.length<=9223372036854775807:=by simp only[JT]at hm;omega
 have bx:D.length<=9223372036854775807:=by simp only[JT]at V;omega
 clear hX hc hm hY bd V;by_cases Z:xs.length=D.length
 rotate_left
 ·have O:x_ (jH xs D=o_):=Z_ (pH λe=>Z (by rw[e]))
  have h4:((xs.length:Int) !=(D.length:Int))=true:=by simp;omega
  clear Z;go_enter Tryz.func59,Tryz.ntmps59;go_wp2;go_ret;rw[O.o];exact⟨rfl,JG _ _⟩
 have h4:((xs.length:Int) !=(D.length:Int))=false:=by simp[Z]
 have HL:=Z_ Z;clear Z;go_enter Tryz.func59,Tryz.ntmps59;go_wp2;clear h4
 go_loopw [5] (λiv W=>∃(k:Nat),k<=xs.length/\iv=e_ d_ k/\x_ (xs.take k=D.take k)/\x_ (n_ w w W)) (λiv _=>xs.length - (A_ iv).toNat)
 case atStart=>exact⟨0,by omega,rfl,Z_ (by simp),Z_ B_⟩
 obtain⟨k,hk,rfl,HA,M⟩:=hrel;by_cases U:k<xs.length
 ·have G:k<D.length:=by have:=HL.o;omega
  obtain⟨b,off,A',c',rfl,hb,bf,ht,x0,x1,x2,x3,x4⟩:=(HX.o.fl M.o).arg U;obtain⟨J,j,ad,ak,rfl,I,av,a1,y0,y1,y2,y3,y4⟩:=(HY.o.fl M.o).arg G;have hd:n_ wr wr wr.drew:=(JG wr _).drew;have K:=nD xs[k].ty D[k].ty _ _ wr.drew (ht.fl hd) (a1.fl hd);have a2:x_ (¬xs[k]=D[k]->jH xs D=o_):=Z_ λh=>pH (yv U G h)
  have bg:x_ (xs[k]=D[k]->xs.take (k+1)=D.take (k+1)):=Z_ λh=>by rw[y_ U,y_ G,HA.o,h]
  have bB:x_ (n_ w w wr.drew):=Z_ (M.o.trans (hd.mono M.o.size));have HD:=Z_ hd;clear ht a1 bf av hd;generalize xs[k]=X at*;generalize D[k]=Y at*;obtain⟨q,hq⟩:=N_ (same X.ty Y.ty);rw[<-hq]at K;have HQ:=Z_ hq;unfold cn at K;have bj:=Z_ K;have ba:x_ (∀W',n_ wr wr W'->W'.cell? ⟨b,off+k*5,b_⟩=c_ (g_ X.name)/\W'.cell? ⟨b,off+k*5+1,b_⟩=c_ (e_ d_ X.ty.kind)/\W'.cell? ⟨b,off+k*5+2,b_⟩=c_ (e_ d_ X.ty.num)/\W'.cell? ⟨b,off+k*5+3,b_⟩=c_ (g_ X.ty.name)/\W'.cell? ⟨b,off+k*5+4,b_⟩=c_ (a_ A' X.ty.args.length c')/\
    W'.cell? ⟨J,j+k*5,b_⟩=c_ (g_ Y.name)/\W'.cell? ⟨J,j+k*5+1,b_⟩=c_ (e_ d_ Y.ty.kind)/\W'.cell? ⟨J,j+k*5+2,b_⟩=c_ (e_ d_ Y.ty.num)/\W'.cell? ⟨J,j+k*5+3,b_⟩=c_ (g_ Y.ty.name)/\W'.cell? ⟨J,j+k*5+4,b_⟩=c_ (a_ ad Y.ty.args.length ak)):=
   Z_ λW' h=>⟨(h.cell (p:=⟨_,_,b_⟩) hb).trans x0,(h.cell (p:=⟨_,_,b_⟩) hb).trans x1,(h.cell (p:=⟨_,_,b_⟩) hb).trans x2,(h.cell (p:=⟨_,_,b_⟩) hb).trans x3,(h.cell (p:=⟨_,_,b_⟩) hb).trans x4,
    (h.cell (p:=⟨_,_,b_⟩) I).trans y0,(h.cell (p:=⟨_,_,b_⟩) I).trans y1,(h.cell (p:=⟨_,_,b_⟩) I).trans y2,(h.cell (p:=⟨_,_,b_⟩) I).trans y3,(h.cell (p:=⟨_,_,b_⟩) I).trans y4⟩
  clear K hq;by_cases hn:X.name=Y.name
  rotate_left
  ·have O:x_ (jH xs D=o_):=Z_ (a2.o λe=>hn (by rw[e]))
   have bk:(X.name.toList==Y.name.toList)=false:=lj hn;clear hn;go_wp2_with fail
   go_quiet (fail)
   go_wp2;go_ret;rw[O.o];exact⟨rfl,eM M.o _⟩
  have bk:(X.name.toList==Y.name.toList)=true:=(vv _ _).2 hn;have HN:=Z_ hn;clear hn;go_wp2_with fail
  go_region_held (λW'=>W'.cell? ⟨b,off+k*5,b_⟩=c_ (g_ X.name)/\W'.cell? ⟨b,off+k*5+1,b_⟩=c_ (e_ d_ X.ty.kind)/\W'.cell? ⟨b,off+k*5+2,b_⟩=c_ (e_ d_ X.ty.num)/\W'.cell? ⟨b,off+k*5+3,b_⟩=c_ (g_ X.ty.name)/\W'.cell? ⟨b,off+k*5+4,b_⟩=c_ (a_ A' X.ty.args.length c')/\
    W'.cell? ⟨J,j+k*5,b_⟩=c_ (g_ Y.name)/\W'.cell? ⟨J,j+k*5+1,b_⟩=c_ (e_ d_ Y.ty.kind)/\W'.cell? ⟨J,j+k*5+2,b_⟩=c_ (e_ d_ Y.ty.num)/\W'.cell? ⟨J,j+k*5+3,b_⟩=c_ (g_ Y.ty.name)/\W'.cell? ⟨J,j+k*5+4,b_⟩=c_ (a_ ad Y.ty.args.length ak))
   (first|exact ba.o _ HD.o|exact ba.o _ (by assumption)) ((go_at_call 103;refine bj.o.mono ?_;rintro e w2 ⟨rfl,bm⟩;have bn:=HD.o.trans (bm.mono HD.o.size)))
  have bb:x_ (n_ w w w2):=Z_ (M.o.trans (bn.mono M.o.size));cases q
  ·have O:x_ (jH xs D=o_):=Z_ (a2.o λe=>by have h:=HQ.o;rw[e,lF rfl]at h;cases h)
   go_wp2;go_ret;rw[O.o];exact⟨rfl,bb.o⟩
  have bo:=Z_ (bg.o (Ex.ext' HN.o (xw.1 HQ.o.symm)));go_wp2;go_roundw
  case rel=>exact⟨k+1,by omega,by go_num,bo,bb⟩
  simp[A_];omega
 have bp:k=xs.length:=by omega
 have O:x_ (jH xs D=v_):=Z_ (rQ (by
  have h:=HA.o;rw[bp,JO]at h;rw[h,HL.o,JO]))
 go_wp2;go_ret;rw[O.o];exact⟨rfl,M.o⟩
theorem xR(x:Int)(h0:-9223372036854775808<=x)(h1:x<=9223372036854775807):d_.wrap x=x:=by
 unfold Lg;simp[KQ,KZ];omega
end Go.Proofs.YtaalbcfpacpgfaaGreat
namespace Go.Typ
open Go.RowKit Go.Lib Go.Vfs Go.Par
def eK(n:Nat):List UInt8:=[(n/16777216%256).toUInt8,(n/65536%256).toUInt8,(n/256%256).toUInt8,(n%256).toUInt8]
theorem bz(n:Nat):(eK n).length=4:=rfl
mutual
def gM:Ty->List UInt8
 | .mk k n s ts=>[k.toNat.toUInt8]++(if k=1 then eK n.toNat else(if k=2 then [s.size.toUInt8]++s.data.toList else [])++([ts.length.toUInt8]++jj ts))
def jj:List Ty->List UInt8
 |[]=>[]
 |t::ts=>gM t++jj ts
end
theorem gT(T:Ty):gM T=[T.kind.toNat.toUInt8]++(if T.kind=1 then eK T.num.toNat else(if T.kind=2 then [T.name.size.toUInt8]++T.name.data.toList else [])++([T.args.length.toUInt8]++jj T.args)):=by
 obtain⟨k,n,s,ts⟩:=T;rw[gM];rfl
theorem sd{ts:List Ty}{k:Nat}(j:k<ts.length):jj (ts.drop k)=gM ts[k]++jj (ts.drop (k+1)):=by
 rw[KA j,jj]
theorem gI{T:Ty}(h:bG T=v_):T.name.size<=255:=by
 rw[gg,Ku]at h;exact Kv h.1
theorem kV{T:Ty}(h:bG T=v_):T.args.length<=255:=by
 rw[gg,Ku,Ku]at h;exact Kv h.2.1
theorem fq{T:Ty}(h:bG T=v_){t:Ty}(j:t∈T.args):bG t=true:=by
 rw[gg,Ku,Ku]at h;have key:∀ts:List Ty,dT ts=v_->∀t∈ts,bG t=true:=by
  intro ts
  induction ts with
  |nil=>intro _ t j;simp at j
  |cons a ts D=>
   intro h t j;rw[dT,Ku]at h;rcases JL.1 j with rfl|j
   ·exact h.1
   exact D h.2 t j
 exact key _ h.2.2 t j
theorem lK(T:Ty):bG T=v_->(gM T).length<=300*T.parts:=by
 induction T using Ty.ind with
 |h T j=>
  intro h;rw[gT,T.parts_eq];have h1:=gI h;have key:∀ts:List Ty,(∀t∈ts,(gM t).length<=300*t.parts)->(jj ts).length<=300*aT ts:=by
   intro ts
   induction ts with
   |nil=>intro _;simp[jj]
   |cons a ts j=>
    intro h;rw[jj,aT,p_];have:=h a (by simp);have:=j λt D=>h t (by simp[D])
    omega
  have h2:=key T.args λt D=>by obtain⟨i,hi,rfl⟩:=J4 D;exact j i hi (fq h (JB hi))
  have G:T.name.data.toList.length=T.name.size:=by rw[Ko];rfl
  split
  ·simp[bz];omega
  split
  ·simp only[p_,Kt];omega
  simp only[p_,Kt,JP];omega
end Go.Typ
namespace Go.Proofs.YtaalbcfpacpgfaaGreat
open Go.RowKit Go.Lib Go.Vfs Go.Par Go.Typ Go.Shelf
theorem oy{a b:Bool}(h:a=b):k_ (u_ a)=k_ (u_ b):=by rw[h]
theorem jb:pP h_ 24 5 (e_ KD 0):=mT (b:=1) J9 K_ (by decide) rfl
theorem iI(a b:List UInt8):l_ (a++b)=l_ a++l_ b:=by simp[l_]
theorem rP(u v:m_)(xs D:List UInt8)(B:Nat)(w:j_)(hu:bw w B u (l_ xs))(Z:bw w B v (l_ D)):
  H_ h_ 40 #[u,v] w λe w'=>e=k_ (u_ (decide (xs=D)))/\∃n,w'=w.drewN n:=by
 obtain⟨A,c,rfl,hc,hm,U⟩:=hu.bq;obtain⟨A',c',rfl,ak,av,G⟩:=Z.bq;clear hu Z;by_cases J:xs.length=D.length
 ·have V:((xs.length:Int) !=(D.length:Int))=false:=by simp[J]
  have O:=Z_ J;clear J;go_enter Tryz.func40,Tryz.ntmps40;go_wp2
  go_loopw [5] (λi wr=>∃k n:Nat,k<=xs.length/\i=e_ d_ k/\jl k xs D/\wr=w.drewN n) (λi _=>xs.length - (A_ i).toNat)
  case atStart=>exact⟨0,0,by omega,rfl,jl.zero _ _,rfl⟩
  obtain⟨k,n,hk,rfl,I,rfl⟩:=hrel;by_cases K:k<xs.length
  ·have j:k<D.length:=by have:=O.o;omega
   obtain⟨b,off,x,rfl,hb,a1,hx,Hx⟩:=U.byte K;obtain⟨b',ad,y,rfl,a2,ba,hy,Hy⟩:=G.byte j;have HA:=Z_ U;clear U;have bb:=Z_ G;clear G;by_cases he:x=y
   ·have X:((x:Int) !=(y:Int))=false:=by simp[he]
    have Y:=Z_ he;clear he;go_wp2
    go_quiet (fail)
    go_wp2;go_roundw
    case rel=>exact⟨k+1,_,by omega,by go_num,I.step K j 0 (LD.1 (by rw[Hx.o,Hy.o,Y.o])),rfl⟩
    simp[A_];omega
   have X:((x:Int) !=(y:Int))=true:=by simp;omega
   have Y:=Z_ he;clear he;go_wp2
   go_quiet (fail)
   go_wp2;go_ret;refine⟨oy ?_,_,World.drewN_drewN _ _ _⟩;have h1:=Hx.o;have h2:=Hy.o;have h3:=Y.o;simp;rintro rfl;exact h3 (h1.symm.trans h2)
  have M:k=xs.length:=by omega
  have Hk:=Z_ M;clear M;go_wp2;go_ret;refine⟨oy ?_,_,rfl⟩;rw[Hk.o]at I;simp[I.whole O.o]
 have V:((xs.length:Int) !=(D.length:Int))=true:=by simp;omega
 have O:=Z_ J;clear J;go_enter Tryz.func40,Tryz.ntmps40;go_wp2;go_ret;refine⟨oy ?_,0,rfl⟩;have:=O.o;simp;rintro rfl;exact this rfl
theorem mK(n:Nat)(x:Int)(h:x=((n%256:Nat):Int)):[e_ KD x]=l_ [n.toUInt8]:=by
 subst h;simp[l_,K8]
theorem ll(n:Nat)(hn:n<4294967296):l_ (eK n)=[e_ KD ((n:Int)/16777216%256),e_ KD ((n:Int)/65536%256),e_ KD ((n:Int)/256%256),e_ KD ((n:Int)%256)]:=by
 unfold l_ eK;simp only[Ks,Lf];have key:∀m:Nat,(m%256).toUInt8.toNat=m%256:=λm=>by
  show(UInt8.ofNat (m%256)).toNat=_;rw[K8];omega
 rw[key,key,key,key];rfl
section
variable{P:K6}(w:j_)
theorem fM{ops:Array L8}{rest:List L8}{o:L8}{a:Act}{Q:Exit->Act->j_->Prop}(Y:o.guard=b_)(sl x:Operand)(t u:Ki)
  (ho:o.op=.call {callee:=.builtin .append,args:=#[sl,x],argTypes:=#[t,u]})
  (base:Nat) (e:Ki) (i:TypeInfo) (X:P.underlying t=c_ (.slice e)) (hu:P.underlying u=c_ .string) (hi:P.info? e=c_ i) (Z:i.zero=c_ (.int KD 0))
  (D:i.size=1) (M:i.bytes=1)
  (v:m_) (xs:List m_) (hs:a.eval sl=v) (G:Par.Own w base e v xs) (s:ByteArray) (hx:a.eval x=.string s)
  (J:xs.length+s.size<=140737488355328) (O:base<=w)
  (h:∀v' w',Par.Own w' base e v' (xs++strCells s)->w.grownBy w' v.ownBlock->(v'.ownBlock=v.ownBlock\/v'.ownBlock=c_ w.heap.size)->wpList P ops Q rest (a.put o.dst v') w'):wpList P ops Q (o::rest) a w:=by
 refine wpList_plain Y λK hK=>?_
 obtain⟨v',w',hr,h2,h3,h4⟩:=run_append_own_string (P:=P) w base t u o.type e i X hu hi Z D M v xs.length xs G s (by simp only[JT];omega) J O;have ad:v'.ownBlock=v.ownBlock\/v'.ownBlock=c_ w.heap.size:=by
  rcases G.2 with⟨rfl,hn⟩|⟨g,cap,cur,rfl,a2,hg,ba,bb,ak,av⟩
  ·by_cases hm:s.size=0
   ·have:=h4.2 ⟨rfl,hm⟩
    rw[this];exact .inl rfl
   have I:=run_append_nil_string (P:=P) w t u o.type e i (.int KD 0) X hu hi Z s O_ O_ (by rw[M];omega);rw[I]at hr;injection hr with V _;rw[<-V];exact .inr rfl
  by_cases U:xs.length+s.size<=cap
  ·have a1:cur.size=cap:=by simpa using ak
   have I:=run_append_room_string (P:=P) w t u o.type e i X hu hi D g xs.length cap cur hg s U O_;rw[I]at hr;injection hr with V _;rw[<-V];exact .inl rfl
  have holds:∀j u,xs[j]?=c_ u->w.cell? ((⟨g,0,b_⟩:Addr).add j)=c_ u:=LB G (g:=g) rfl;have I:=run_append_grow_string (P:=P) w t u o.type e i (.int KD 0) X hu hi Z ⟨g,0,b_⟩ xs.length cap xs (by rw[D];simp) holds s O_ O_ (by rw[M];exact growslice_fits O_ O_);rw[I]at hr;injection hr with V _;rw[<-V];exact .inr rfl
 unfold Oper.wp execOp;simp only[ho,resolve,invoke,builtin,MM,MC,LS,L9,Ks,Lf,hs,hx,hr];refine hK _ _ (h v' w' ?_ h3 ad);unfold Par.Own;rw[p_,strCells_length];exact h2
end
variable{B:Nat}{W1 W W':j_}{bv sv v':m_}{cur xs:List UInt8}
theorem fK(s:ByteArray):strCells s=l_ s.data.toList:=rfl
structure WS(B:Nat)(W1:j_)(bv:m_)(cur:List UInt8)(sv:m_)(W:j_):Prop where
 own:Par.Own W B 5 sv (l_ cur)
 gr:Gr W1 W bv sv
theorem WS.app{o:Obj}(h:WS B W1 bv cur sv W)(j:Par.Own W' B 5 v' (l_ cur++l_ xs))(G:(W.alloc o).grownBy W' sv.ownBlock)
  (D:v'.ownBlock=sv.ownBlock\/v'.ownBlock=c_ (W.alloc o).heap.size):WS B W1 bv (cur++xs) v' W':=
 ⟨by rw[iI];exact j,h.gr.trans (Gr.app G D)⟩
theorem WS.Gb(h:WS B W1 bv cur sv W)(j:Par.Own W' B 5 v' (l_ cur++l_ xs))(G:W.grownBy W' sv.ownBlock)
  (D:v'.ownBlock=sv.ownBlock\/v'.ownBlock=c_ W.heap.size):WS B W1 bv (cur++xs) v' W':=
 ⟨by rw[iI];exact j,h.gr.trans ⟨G,D.imp_right λh g e=>by rw[h]at e;injection e with e;omega⟩⟩
theorem WS.form(h:WS B W1 bv cur sv W):∃A c,sv=a_ A cur.length c:=by
 obtain⟨A,c,e⟩:=h.own.form;rw[t_]at e;exact⟨A,c,e⟩
theorem mC(W:j_)(n:Nat)(hn:n<256):bw (W.alloc (f_ #[e_ KD (n:Int)] 5)) (W+1) (a_ (c_ ⟨W,0,b_⟩) 1 1) (l_ [n.toUInt8]):=by
 have h:=bw.new W 5 #[e_ KD (n:Int)] (l_ [n.toUInt8]) (by rw[<-mK n (n:Int) O_]) (by simp[l_,JT]);simpa[l_]using h
theorem xS(B:Nat)(T:Ty):∀(bs:List UInt8) (bv v:m_) (w:j_),B<=w.heap.size->aG (·<B) w v T->Par.Own w B 5 bv (l_ bs)->fR T->bG T=v_->bs.length+300*T.parts<=2000000000->
  H_ h_ 118 #[bv,v] w λe w'=>∃v',e=k_ v'/\Par.Own w' B 5 v' (l_ (bs++gM T))/\Gr w w' bv v':=by
 induction T using Ty.ind with
 |h T ih=>
  intro bs bv v w hB hT hO hF hS hp;have IH:=Z_ ih;clear ih;obtain⟨A,c,rfl,hc,hm,hn⟩:=hT.form;obtain⟨Am,cm,rfl⟩:=hO.form;rw[t_]at hO⊢;obtain⟨W1,av⟩:=N_ (w.alloc (f_ #[e_ d_ T.kind,e_ d_ T.num,g_ T.name,a_ A T.args.length c] 61));have bB:n_ w w W1:=by rw[av];exact B_.alloc L_ _
  have cg:W1.heap[w.heap.size]?=c_ (f_ #[e_ d_ T.kind,e_ d_ T.num,g_ T.name,a_ A T.args.length c] 61 (0,0)):=by rw[av];exact r_ _ _
  have bN:W1.heap.size=w.heap.size+1:=by rw[av];simp
  have cr:aG (·<B) W1 (cn T.kind T.num T.name A T.args.length c) T:=hT.ae λg hg=>⟨hg,bB.block g O_⟩
  have ch:=hO.below bB;have e2:=Z_ cg;have HP:=Z_ hp;have g8:=Z_ bN;have e3:=Z_ cr;have ct:=Z_ bB;have HB:=Z_ hB;have e4:=Z_ hF;have cu:=Z_ hS;have cv:x_ (∀g,(a_ Am bs.length cm).ownBlock=c_ g->B<=g/\g<w.heap.size):=Z_ hO.lt;obtain⟨y0,y1,y2,y3⟩:=aX cg;have e5:=gI hS;have ha:=kV hS;have hd:=T.dX;have cx:=hF.self;clear hT cg hp cr bB hc hm hn hO hF hS;unfold cn;obtain⟨kn,bg,hf,hh⟩:∃kn:Nat,T.kind=(kn:Int)/\1<=kn/\kn<=4:=by
   obtain⟨k,n,s,ts⟩:=T;rcases eu cx with⟨h,_⟩|⟨h,_⟩|⟨h,_⟩|⟨h,_⟩
   ·exact⟨1,h,by omega,by omega⟩
   ·exact⟨2,h,by omega,by omega⟩
   ·exact⟨3,h,by omega,by omega⟩
   exact⟨4,h,by omega,by omega⟩
  have ck:x_ (WS B W1 (a_ Am bs.length cm) bs (a_ Am bs.length cm) W1):=Z_ ⟨ch,Gr.refl _ _⟩;have e6:KD.wrap (kn:Int)=(kn:Int):=by unfold Lg;simp[KQ,KZ];omega
  have cB:=mC W1 kn O_;have bR:∀o,Par.Own (W1.alloc o) B 5 (a_ Am bs.length cm) (l_ bs):=λo=>ch.alloc o
  have hl:bs.length<=2000000000:=by have:=HP.o;omega
  have e7:B<=W1:=by have:=HB.o;omega
  have M:x_ (∀cur sv W,WS B W1 (a_ Am bs.length cm) cur sv W->W.heap[w.heap.size]?=c_ (f_ #[e_ d_ T.kind,e_ d_ T.num,g_ T.name,a_ A T.args.length c] 61 (0,0))/\aG (·<B) W (cn T.kind T.num T.name A T.args.length c) T/\B<=W.heap.size):=Z_ λcur sv W h=>by
   have cE:=h.gr.below e7 λg e=>(cv.o g e).1
   exact⟨(h.gr.block O_ (λe=>by have:=(cv.o _ e).2;omega)).trans e2.o,e3.o.ae λg hg=>⟨hg,cE.block g hg⟩,by have:=cE.size;omega⟩
  clear bN;rw[bg]at y0 av M⊢;rw[av]at y0 y1 y2 y3;clear ch;go_enter Tryz.func118,Tryz.ntmps118;go_upto_region 1 with fail;rw[<-av];clear av y0 y1 y2 y3;obtain⟨y0,y1,y2,y3⟩:=aX (M.o _ _ _ ck.o).1;go_upto_region 2 with(at_builtin;refine aE _ rfl _ _ _ rfl B 5 _ jb _ _ rfl (bR _) _ _ _ rfl cB (aZ _) ?c1 ?c2 ?_)
  case c1=>rw[t_];simp[l_];omega
  case c2=>simp;omega
  intro v2 w2 bj cF b0;have O:=WS.app (xs:=[kn.toUInt8]) ck.o bj cF (by rw[JQ];exact b0);obtain⟨D,X⟩:=N_ (bs++[kn.toUInt8]);have c6:D.length=bs.length+1:=by rw[X];simp
  rw[<-X]at O;obtain⟨A2,c2,rfl⟩:=O.form;have ad:=Z_ O;have a1:=Z_ X;have g4:D.length<=bs.length+1:=by omega
  obtain⟨y0,y1,y2,y3⟩:=aX (M.o _ _ _ O).1;have g5:=(M.o _ _ _ O).2.2;clear X O bj cF b0 cB bR c6 e6 ck;by_cases h1:kn=1
  ·subst h1
   obtain⟨nn,c7,ho⟩:∃nn:Nat,T.num=(nn:Int)/\nn<1073741824:=by
    obtain⟨k,n,s,ts⟩:=T;rcases eu cx with⟨_,h0,h1,_⟩|⟨h,_⟩|⟨h,_⟩|⟨h,_⟩
    ·have h0:0<=n:=h0
     have h1:n<1073741824:=h1;exact⟨n.toNat,by show n=_;omega,by omega⟩
    all_goals(rw[bg]at h;cases h)
   have c8:x_ (bs++gM T=D++eK nn):=Z_ (by
    rw[gT,bg,G_ (show((1:Nat):Int)=1 from rfl),a1.o,c7,Lh,JU];rfl)
   rw[c7]at y1;have bb:∀o,Par.Own (w2.alloc o) B 5 (a_ A2 D.length c2) (l_ D):=λo=>ad.o.own.alloc o
   have c9:bw (w2.alloc (f_ #[e_ KD ((nn:Int)/16777216),e_ KD ((nn:Int)/65536%256),e_ KD ((nn:Int)/256%256),e_ KD ((nn:Int)%256)] 5)) (w2+1) (a_ (c_ ⟨w2,0,b_⟩) 4 4) (l_ (eK nn)):=by
    have h:=bw.new w2 5 #[e_ KD ((nn:Int)/16777216),e_ KD ((nn:Int)/65536%256),e_ KD ((nn:Int)/256%256),e_ KD ((nn:Int)%256)] (l_ (eK nn)) (by
     rw[ll nn O_,show(nn:Int)/16777216%256=(nn:Int)/16777216 by omega]) (by rw[t_,bz];simp[JT])
    rw[t_,bz]at h;exact h
   go_wp2_with (at_builtin;refine aE _ rfl _ _ _ rfl B 5 _ jb _ _ rfl (bb _) _ _ _ rfl c9 (aZ _) ?c1 ?c2 ?_)
   case c1=>rw[t_,t_,bz];omega
   case c2=>simp;omega
   intro v3 w3 J bk ak;have G:=WS.app (xs:=eK nn) ad.o J bk (by rw[JQ];exact ak);have HE:x_ (Par.Own w3 B 5 v3 (l_ (bs++gM T))/\Gr w w3 (a_ Am bs.length cm) v3):=Z_ ⟨by rw[c8.o];exact G.own,(Gr.ar ct.o _).trans G.gr⟩;clear G J bk ak;go_wp2;go_ret;exact⟨_,rfl,HE.o.1,HE.o.2⟩
  have df:((kn:Int)==1)=false:=by simp;omega
  have e8:KD.wrap (T.args.length:Int)=(T.args.length:Int):=by unfold Lg;simp[KQ,KZ];omega
  by_cases h2:kn=2
  focus
   subst h2;have e9:KD.wrap (T.name.size:Int)=(T.name.size:Int):=by unfold Lg;simp[KQ,KZ];omega
   have b1:=mC w2 T.name.size O_;have bb:∀o,Par.Own (w2.alloc o) B 5 (a_ A2 D.length c2) (l_ D):=λo=>ad.o.own.alloc o
   go_upto_region 6 with(at_builtin;refine aE _ rfl _ _ _ rfl B 5 _ jb _ _ rfl (bb _) _ _ _ rfl b1 (aZ _) ?c1 ?c2 ?_)
   case c1=>rw[t_];simp[l_];omega
   case c2=>simp;omega
   intro v3 w3 J bk ak;have G:=WS.app (xs:=[T.name.size.toUInt8]) ad.o J bk (by rw[JQ];exact ak);obtain⟨b2,Y⟩:=N_ (D++[T.name.size.toUInt8]);have g6:b2.length<=bs.length+2:=by rw[Y];simp;omega
   rw[<-Y]at G;obtain⟨A3,c3,rfl⟩:=G.form;have b3:=Z_ G;have bm:=Z_ Y;clear y0 y1 y2 y3;obtain⟨y0,y1,y2,y3⟩:=aX (M.o _ _ _ G).1;have dv:=(M.o _ _ _ G).2.2;have J:=G.own;clear Y G bk ak b1 bb e9;obtain⟨i0,hi,fb,bN,fi⟩:=mJ;go_upto_region 7 with(at_builtin;refine fM _ rfl _ _ 24 9 rfl B 5 i0 J9 KH hi fb bN fi _ _ rfl J T.name rfl ?c3 ?c5 ?_)
   case c3=>rw[t_];omega
   case c5=>omega
   intro v4 w4 a2 eb b5;rw[fK]at a2;have I:=WS.Gb (xs:=T.name.data.toList) b3.o a2 eb b5;obtain⟨K,j⟩:=N_ (b2++T.name.data.toList);have b6:K.length<=bs.length+257:=by
    have h3:T.name.data.toList.length=T.name.size:=by rw[Ko];rfl
    rw[j,p_,h3];omega
   have bd:x_ (bs++gM T=K++([T.args.length.toUInt8]++jj T.args)):=Z_ (by
    rw[gT,bg,I_ (show¬((2:Nat):Int)=1 by decide),G_ (show((2:Nat):Int)=2 from rfl),j,bm.o,a1.o];simp only[JU];rfl)
   rw[<-j]at I;clear y0 y1 y2 y3 j a2 eb b5 J bm b3 dv
  rotate_left
  focus
   have ec:((kn:Int)==2)=false:=by simp;omega
   have bd:x_ (bs++gM T=D++([T.args.length.toUInt8]++jj T.args)):=Z_ (by
    rw[gT,bg,I_ (show¬((kn:Nat):Int)=1 by omega),I_ (show¬((kn:Nat):Int)=2 by omega),a1.o,Lh];simp only[JU,Kl])
   go_upto_region 7 with fail;have I:=ad.o;obtain⟨K,j⟩:=N_ (D);have b6:K.length<=bs.length+257:=by rw[j];omega
   obtain⟨w4,cl⟩:=N_ (w2);obtain⟨v4,bO⟩:=N_ (a_ A2 D.length c2);rw[<-j]at bd I;rw[<-cl]at I;rw[<-j]at bO;rw[<-bO]at I;rw[<-j,<-bO,<-cl];clear y0 y1 y2 y3 j cl bO ec
  all_goals
   obtain⟨A4,c4,rfl⟩:=I.form;have cb:=Z_ I;obtain⟨y0,y1,y2,y3⟩:=aX (M.o _ _ _ I).1;have g7:=(M.o _ _ _ I).2.2;have cc:=mC w4 T.args.length O_;have cd:∀o,Par.Own (w4.alloc o) B 5 (a_ A4 K.length c4) (l_ K):=λo=>cb.o.own.alloc o
   clear I;go_upto_region 8 with(at_builtin;refine aE _ rfl _ _ _ rfl B 5 _ jb _ _ rfl (cd _) _ _ _ rfl cc (aZ _) ?c1 ?c2 ?_)
   case c1=>rw[t_];simp[l_];omega
   case c2=>simp;omega
   intro v5 w5 bn ee cf;have bf:=WS.app (xs:=[T.args.length.toUInt8]) cb.o bn ee (by rw[JQ];exact cf);obtain⟨bo,Z⟩:=N_ (K++[T.args.length.toUInt8]);rw[<-Z]at bf;have eg:x_ (bo++jj (T.args.drop 0)=bs++gM T):=Z_ (by rw[KU,bd.o,Z,JU]);have en:x_ (bo.length+300*aT (T.args.drop 0)<=bs.length+300*T.parts):=Z_ (by
    rw[KU,Z,p_,T.parts_eq];simp;omega)
   have eo:=Z_ bf;obtain⟨fr,fz,gi,gn⟩:=aX (M.o _ _ _ bf).1;clear y0 y1 y2 y3 bf Z bn ee cf cd cc e8 bd b6 df e5 h1;go_wp2;clear fr fz gi gn
   go_loopw [0,58] (λsv iv W=>∃(k:Nat) (cur:List UInt8),k<=T.args.length/\iv=e_ d_ k/\x_ (WS B W1 (a_ Am bs.length cm) cur sv W)/\x_ (cur++jj (T.args.drop k)=bs++gM T)/\x_ (cur.length+300*aT (T.args.drop k)<=bs.length+300*T.parts)) (λ_ iv _=>T.args.length - (A_ iv).toNat)
   case atStart=>exact⟨0,bo,by omega,rfl,eo,eg,en⟩
   obtain⟨k,cur,hk,rfl,U,ev,gp⟩:=hrel;obtain⟨As,cs,es⟩:=U.o.form;subst es;by_cases ba:k<T.args.length
   ·obtain⟨-,eA,hq⟩:=M.o _ _ _ U.o
    obtain⟨b,off,A',c',rfl,hb,ht,x0,x1,x2,x3⟩:=eA.arg ba;obtain⟨W2,bp⟩:=N_ (wr.alloc (f_ #[e_ d_ T.args[k].kind,e_ d_ T.args[k].num,g_ T.args[k].name,a_ A' T.args[k].args.length c'] 61));have bt:n_ wr wr W2:=by rw[bp];exact B_.alloc L_ _
    have heq:=ev.o;rw[sd ba]at heq;have gv:=iR ba;have gy:=lK T.args[k] (fq cu.o (JB ba));have hle:=gp.o;have cp:=IH.o k ba cur (a_ As cur.length cs) _ W2 (by have:=bt.size;omega) (ht.ae λg hg=>⟨hg,bt.block g O_⟩) (U.o.own.below bt) (e4.o.arg ba) (fq cu.o (JB ba)) (by have:=HP.o;omega);obtain⟨z0,z1,z2,z3⟩:=aX (show W2.heap[wr.heap.size]?=c_ (f_ #[e_ d_ T.args[k].kind,e_ d_ T.args[k].num,g_ T.args[k].name,a_ A' T.args[k].args.length c'] 61 (0,0)) by rw[bp];exact r_ _ _);have gz:x_ ((cur++gM T.args[k])++jj (T.args.drop (k+1))=bs++gM T):=Z_ (by rw[JU];exact heq);have g0:x_ ((cur++gM T.args[k]).length+300*aT (T.args.drop (k+1))<=bs.length+300*T.parts):=Z_ (by rw[p_];omega);have g1:x_ (Gr W1 W2 (a_ Am bs.length cm) (a_ As cur.length cs)):=Z_ (U.o.gr.trans (Gr.ar bt _));clear ht eA heq gv gy hle bt;generalize cur++gM T.args[k]=bx at*;generalize T.args[k]=V at*;unfold cn at cp;have g2:=Z_ cp;rw[bp]at z0 z1 z2 z3;clear cp;go_wp2_with fail;rw[<-bp];clear bp z0 z1 z2 z3;refine g2.o.mono ?_;rintro e w6 ⟨v6,rfl,eC,e0⟩;have e1:x_ (WS B W1 (a_ Am bs.length cm) bx v6 w6):=Z_ ⟨eC,g1.o.trans e0⟩;clear eC e0;go_wp2;go_roundw
    case rel=>exact⟨k+1,bx,by omega,by go_num,e1,gz,g0⟩
    simp[A_];omega
   have g3:k=T.args.length:=by omega
   have heq:=ev.o;rw[g3,Ma,jj,La]at heq;have HE:x_ (Par.Own wr B 5 (a_ As cur.length cs) (l_ (bs++gM T))/\Gr w wr (a_ Am bs.length cm) (a_ As cur.length cs)):=Z_ ⟨by rw[<-heq];exact U.o.own,(Gr.ar ct.o _).trans U.o.gr⟩;clear heq;go_wp2;go_ret;exact⟨_,rfl,HE.o.1,HE.o.2⟩
end Go.Proofs.YtaalbcfpacpgfaaGreat
namespace Go.Typ
def Bo(x:Ex):List UInt8:=[x.name.size.toUInt8]++(x.name.data.toList++gM x.ty)
def fP:List Ex->List UInt8
 |[]=>[]
 |x::xs=>Bo x++fP xs
def et(xs:List Ex):List UInt8:=[(xs.length/256).toUInt8,xs.length.toUInt8]++fP xs
theorem lu{xs:List Ex}{k:Nat}(j:k<xs.length):fP (xs.drop k)=Bo xs[k]++fP (xs.drop (k+1)):=by
 rw[KA j,fP]
end Go.Typ
namespace Go.Proofs.YtaalbcfpacpgfaaGreat
open Go.RowKit Go.Lib Go.Vfs Go.Par Go.Typ Go.Shelf
theorem eD{xs:List Ex}(h:aM xs=v_):xs.length<=1000:=by
 unfold aM at h;rw[Ku]at h;exact Kv h.1
theorem xa{xs:List Ex}(h:aM xs=v_){k:Nat}(j:k<xs.length):fc xs k=true:=by
 unfold aM at h;rw[Ku,LH]at h;exact h.2 k (Mq.2 j)
theorem kQ{xs:List Ex}(h:aM xs=v_){k:Nat}(D:k<xs.length):xs[k].name.size<=255/\aY xs[k].name.data.toList=v_/\dn xs[k].ty=v_/\bG xs[k].ty=true:=by
 have j:=xa h D;rw[rf D]at j;simp only[yD,ku,Ku]at j;exact⟨Kv j.1.1,j.1.2,j.2.2.1,j.2.2.2⟩
theorem jc{T:Ty}(h:dn T=v_):cJ T=true:=by
 unfold dn at h;rw[Ku]at h;exact h.1
def gZ(xs:List Ex)(w:j_)(e:Ending)(w':j_):Prop:=
 ∃v',e=k_ (.tuple #[v',e_ d_ (if aM xs then 0 else 140)])/\n_ w.heap.size w w'/\(aM xs=v_->Par.Own w' w.heap.size 5 v' (l_ (et xs)))/\(aM xs=o_->v'=a_ b_ 0 0)
theorem yo(xs:List Ex)(v:m_)(w:j_)(hX:bA (·<w.heap.size) w v xs):H_ h_ 75 #[v] w (gZ xs w):=by
 obtain⟨P,hP⟩:=N_ (gZ xs w);have cd:=Z_ hP;rw[<-hP];clear hP;obtain⟨A,c,rfl,hc,hm⟩:=hX.form;have e4:xs.length<=9223372036854775807:=by simp only[JT]at hm;omega
 have df:=Z_ (pC xs _ w hX);have HX:=Z_ hX;clear hX hc hm;go_enter Tryz.func75,Tryz.ntmps75;go_wp2_with fail;refine df.o.mono ?_;rintro e w2 ⟨rfl,bp⟩;have cf:=Z_ bp;have bt:=bp.size;clear bp;by_cases hr:aM xs=v_
 rotate_left
 ·have a2:aM xs=false:=by simpa using hr
  have HE:x_ (P (k_ (.tuple #[a_ b_ 0 0,e_ d_ 140])) w2):=Z_ (by
   rw[cd.o];unfold gZ;refine⟨a_ b_ 0 0,by rw[a2];rfl,cf.o,λh=>?_,λ_=>rfl⟩;rw[a2]at h;cases h)
  rw[a2];clear hr a2;go_wp2;exact HE.o
 have hl:=eD hr;have bx:=Z_ hr;rw[hr];clear hr;obtain⟨n,hn⟩:=N_ (xs.length);obtain⟨W3,V⟩:=N_ (w2.alloc (f_ #[e_ KD ((xs.length:Int)/256),e_ KD ((xs.length:Int)%256)] 5));have cg:n_ w2 w2 W3:=by rw[V];exact B_.alloc L_ _
 have Y:Par.Own W3 w 5 (a_ (c_ ⟨w2,0,b_⟩) 2 2) (l_ [(xs.length/256).toUInt8,xs.length.toUInt8]):=by
  rw[V];have h:=Par.Own.new w2 w 5 #[e_ KD ((xs.length:Int)/256),e_ KD ((xs.length:Int)%256)] (l_ [(xs.length/256).toUInt8,xs.length.toUInt8]) (by
   rw[show l_ [(xs.length/256).toUInt8,xs.length.toUInt8]=l_ [(xs.length/256).toUInt8]++l_ [xs.length.toUInt8]from rfl,<-mK (xs.length/256) ((xs.length:Int)/256) O_,<-mK xs.length ((xs.length:Int)%256) O_];rfl) bt (by simp[l_,JT])
  simpa[l_]using h
 have ch:x_ (WS w W3 (a_ (c_ ⟨w2,0,b_⟩) 2 2) [(xs.length/256).toUInt8,xs.length.toUInt8] (a_ (c_ ⟨w2,0,b_⟩) 2 2) W3):=Z_ ⟨Y,Gr.refl _ _⟩;have dv:x_ (n_ w w W3):=Z_ (cf.o.trans (cg.mono bt));have e5:w.heap.size<=w2.heap.size/\w2.heap.size<W3.heap.size:=⟨bt,by rw[V];simp⟩;clear Y cg hn;go_wp2;rw[<-V];clear V
 go_loopw [4,20] (λsv iv W=>∃(k:Nat) (cur:List UInt8),k<=xs.length/\iv=e_ d_ k/\x_ (WS w W3 (a_ (c_ ⟨w2,0,b_⟩) 2 2) cur sv W)/\x_ (cur++fP (xs.drop k)=et xs)/\cur.length<=2+100000*k) (λ_ iv _=>xs.length - (A_ iv).toNat)
 case atStart=>exact⟨0,_,by omega,rfl,ch,Z_ (by rw[KU];rfl),by simp⟩
 obtain⟨k,cur,hk,rfl,U,ck,e6⟩:=hrel;have cl:n_ w W3 wr:=U.o.gr.below O_ λg e=>by
  have e:w2.heap.size=g:=by simpa[Value.ownBlock]using e
  omega
 have bB:x_ (n_ w w wr):=Z_ (dv.o.trans cl);have e7:=bB.o.size;obtain⟨As,cs,es⟩:=U.o.form;subst es;clear cl;by_cases bN:k<xs.length
 ·obtain⟨b,off,A',c',rfl,hb,eb,ht,x0,x1,x2,x3,x4⟩:=(HX.o.ae (S':=(·<w.heap.size)) λg hg=>⟨hg,bB.o.block g hg⟩).arg bN
  obtain⟨e8,ec,cm,bO⟩:=kQ bx.o bN;have heq:=ck.o;rw[lu bN]at heq;obtain⟨ee,cp⟩:=cU.1 (jc cm);have eg:=lK xs[k].ty bO;obtain⟨Z,ba⟩:=N_ (wr.alloc (f_ #[g_ xs[k].name,e_ d_ xs[k].ty.kind,e_ d_ xs[k].ty.num,g_ xs[k].ty.name,a_ A' xs[k].ty.args.length c'] 63));have bb:n_ wr wr Z:=by rw[ba];exact B_.alloc L_ _
  have bR:Z.heap[wr.heap.size]?=c_ (f_ #[g_ xs[k].name,e_ d_ xs[k].ty.kind,e_ d_ xs[k].ty.num,g_ xs[k].ty.name,a_ A' xs[k].ty.args.length c'] 63 (0,0)):=by rw[ba];exact r_ _ _
  have en:x_ (aG (·<w.heap.size) Z (cn xs[k].ty.kind xs[k].ty.num xs[k].ty.name A' xs[k].ty.args.length c') xs[k].ty):=Z_ (ht.ae λg hg=>⟨hg,bb.block g O_⟩);have cr:x_ (∀cur bv W,w.heap.size<=W.heap.size->aG (·<w.heap.size) W (cn xs[k].ty.kind xs[k].ty.num xs[k].ty.name A' xs[k].ty.args.length c') xs[k].ty->Par.Own W w 5 bv (l_ cur)->cur.length<=1000000000->_):=
   Z_ λcur bv W h1 h2 h3 h4=>xS w xs[k].ty cur bv _ W h1 h2 h3 cp bO O_
  have ct:x_ ((((cur++[xs[k].name.size.toUInt8])++xs[k].name.data.toList)++gM xs[k].ty)++fP (xs.drop (k+1))=et xs):=Z_ (by
   rw[<-heq];unfold Bo;simp only[JU])
  have e9:xs[k].name.data.toList.length=xs[k].name.size:=by rw[Ko];rfl
  have bd:(((cur++[xs[k].name.size.toUInt8])++xs[k].name.data.toList)++gM xs[k].ty).length<=2+100000*(k+1):=by
   simp only[p_,Kt];omega
  have b0:x_ (wr.heap.size<Z.heap.size):=Z_ (ao bR);have bf:x_ (WS w W3 (a_ (c_ ⟨w2,0,b_⟩) 2 2) cur (a_ As cur.length cs) Z):=Z_ ⟨U.o.own.below bb,U.o.gr.trans (Gr.ar bb _)⟩;have b1:x_ (∀g,(a_ As cur.length cs).ownBlock=c_ g->w.heap.size<=g/\g<wr.heap.size):=Z_ U.o.own.lt;have b2:=Z_ bR;clear ec cm bO heq ee cp eg bb bR ht eb;generalize xs[k]=X at*;have eo:KD.wrap (X.name.size:Int)=(X.name.size:Int):=by unfold Lg;simp[KQ,KZ];omega
  have bg:=mC Z X.name.size O_;have bj:∀o,Par.Own (Z.alloc o) w 5 (a_ As cur.length cs) (l_ cur):=λo=>bf.o.own.alloc o
  obtain⟨z0,z1,z2,z3,z4⟩:=nV b2.o;have cu:w.heap.size<=Z.heap.size:=by have:=b0.o;omega
  go_upto_region 7 with fail;rw[<-ba];clear ba x0 x1 x2 x3 x4;go_upto_region 8 with(at_builtin;refine aE _ rfl _ _ _ rfl w 5 _ jb _ _ rfl (bj _) _ _ _ rfl bg (aZ _) ?c1 ?c2 ?_)
  case c1=>rw[t_];simp[l_];omega
  case c2=>simp;omega
  intro v5 w5 j b3 ad;have I:=WS.app (xs:=[X.name.size.toUInt8]) bf.o j b3 (by rw[JQ];exact ad);have M:Gr Z w5 (a_ As cur.length cs) v5:=Gr.app b3 (by rw[JQ];exact ad);have bk:=(M.block b0.o (λe=>by have:=(b1.o _ e).2;omega)).trans b2.o;obtain⟨bm,D⟩:=N_ (cur++[X.name.size.toUInt8]);have e1:bm.length<=3+100000*k:=by rw[D,p_];simp;omega
  rw[<-D]at I;obtain⟨A5,c5,rfl⟩:=I.form;have cv:=Z_ I;have cx:=Z_ M;have b5:=Z_ D;have j:=I.own;have e2:w.heap.size<=w5.heap.size:=by have:=M.1.size;omega
  clear z0 z1 z2 z3 z4;obtain⟨z0,z1,z2,z3,z4⟩:=nV bk;clear D I M b3 ad bg bj eo bk;obtain⟨i0,hi,ev,eA,cB⟩:=mJ;go_upto_region 9 with(at_builtin;refine fM _ rfl _ _ 24 9 rfl w 5 i0 J9 KH hi ev eA cB _ _ rfl j X.name rfl ?c3 ?c5 ?_)
  case c3=>rw[t_];omega
  case c5=>omega
  intro v6 w6 K b6 ak;rw[fK]at K;have J:=WS.Gb (xs:=X.name.data.toList) cv.o K b6 ak;have av:Gr Z w6 (a_ As cur.length cs) v6:=cx.o.trans ⟨b6,ak.imp_right λh g e=>by rw[h]at e;injection e with e;omega⟩;have bn:=(av.block b0.o (λe=>by have:=(b1.o _ e).2;omega)).trans b2.o;have a1:n_ w Z w6:=av.below cu λg e=>(b1.o g e).1
  obtain⟨O,G⟩:=N_ (bm++X.name.data.toList);have e3:O.length<=300+100000*k:=by
   rw[G,p_];omega
  rw[<-G]at J;obtain⟨A6,c6,rfl⟩:=J.form;have cb:=cr.o O (a_ A6 O.length c6) w6 (by have:=a1.size;omega) (en.o.ae λg hg=>⟨hg,a1.block g hg⟩) J.own O_;have cE:=Z_ J.gr;have cc:=ct.o;rw[<-b5.o,<-G]at cc bd;generalize O++gM X.ty=bo at*;have cF:=Z_ cc;unfold cn at cb;have eC:=Z_ cb;clear z0 z1 z2 z3 z4;obtain⟨z0,z1,z2,z3,z4⟩:=nV bn;clear G J av b6 ak K bn a1 cb cc j cr ct;go_wp2_with fail;refine eC.o.mono ?_;rintro e w7 ⟨v7,rfl,c7,c8⟩;have c9:x_ (WS w W3 (a_ (c_ ⟨w2,0,b_⟩) 2 2) bo v7 w7):=Z_ ⟨c7,cE.o.trans c8⟩;clear c7 c8 z0 z1 z2 z3 z4;go_wp2;go_roundw
  case rel=>exact⟨k+1,bo,by omega,by go_num,c9,cF,bd⟩
  simp[A_];omega
 have e0:k=xs.length:=by omega
 have heq:=ck.o;rw[e0,Ma,fP,La]at heq;have HE:x_ (P (k_ (.tuple #[a_ As cur.length cs,e_ d_ 0])) wr):=Z_ (by
  rw[cd.o];unfold gZ;refine⟨a_ As cur.length cs,by rw[bx.o];rfl,bB.o,λ_=>?_,λh=>?_⟩
  ·rw[<-heq];exact U.o.own
  rw[bx.o]at h;cases h)
 clear heq;go_wp2;exact HE.o
