/- Proved here: IndexSteps returns true at every input of bulk at most 1048576 (the statement Rows.IndexStepsUptoSaid). No condition beyond the form's own.
   The texts of this claim were joined and shortened by a program (short names, short laws), for the limit on a claim's size; no step of the proof was changed. -/
import Derived.Test.YtaalbcfpacpgfaaGreatRows
import Derived.ProofKit
import Derived.OpenShut
import Derived.ShutString
import Derived.ChangeOld
import Derived.Below
import Derived.SizedLaws
import Derived.Deep.Slices
import Derived.Deep.Fields
import Derived.ChangeSame
import Derived.JoinedCond
import Derived.Deep.DeepHandedRow
import Derived.Test.YtaalbcfpacpgfaaGreatZdM3
import Derived.Test.YtaalbcfpacpgfaaGreatZdI28
import Derived.Test.YtaalbcfpacpgfaaGreatZdIndexStepsWalk
set_option linter.all false
set_option maxRecDepth 100000
open Bool renaming false->o_,true->v_
open Go.Addr renaming add->Mo
open Go renaming DataW->Mp,MemPlace->LL,Value->m_,maxLen->JT
open Go.DataW renaming trod->MQ
open Go.IntKind renaming bits->KZ,i64->d_,signed->KQ
open Go.Proofs.Tryz renaming prog->h_
open Go.Value renaming slice->a_
open List renaming range->MR
open Option renaming some->c_
namespace Go.Proofs.YtaalbcfpacpgfaaGreat
open Go.ChangeShapes Go.WideShapes Go.ChangeAt Go.RowKit Go.Par Go.Lib Go.Shelf
variable{H:Type}
theorem own:ownKnob h_.godebug=none:=by kernel_rfl
theorem laidOut:laidOutB h_=true:=by kernel_rfl
theorem xx{W:World}{k:IntKind}{a:Addr}{len cap:Nat}{t:List Int}(D:len<=cap)(hm:cap<=JT)(G:t.length=cap)(hcell:∀i,i<t.length->W.cell? (a.add i)=c_ (.int k (t.getD i 0))):
  bw W W (a_ (c_ a) len cap) ((t.take len).map (Value.int k)):=by
 have e:((t.take len).map (Value.int k)).length=len:=by simp;omega
 refine⟨c_ a,cap,by rw[e],by rw[e];exact D,hm,λhp=>?_⟩;rw[e]at hp;have h0:=hcell 0 O_;obtain⟨b,off,spot⟩:=a;have j:spot=none:=by simpa[Mo]using World.cell?_spot h0
 subst j;refine⟨b,off,rfl,?_,λi hi=>?_⟩
 ·have:=JY _ _ h0
  rw[cS]at this;exact this
 rw[e]at hi;rw[<-cS,hcell i O_];have h1:i<t.length:=by omega
 simp[hi,h1,s_]
open Go.ChangeShapes Go.WideShapes Go.ChangeAt Go.RowKit Go.Par Go.Lib Go.Deep
theorem CY(d:Mp H):1<=Rows.uptoBulk d:=by
 cases d with
 |lit l=>cases l<;>simp[Rows.uptoBulk]
 |nil=>simp[Rows.uptoBulk]
 |ptr d=>simp[Rows.uptoBulk]
 |slice elems spare=>simp[Rows.uptoBulk]
 |agg parts=>simp[Rows.uptoBulk]
 |iface t d=>simp[Rows.uptoBulk]
 |map entries=>simp[Rows.uptoBulk]
 |held h=>simp[Rows.uptoBulk]
theorem nW{d:Mp H}{l:List (Mp H)}(h:d∈l):Rows.uptoBulk d<=Rows.uptoBulkAll l:=by
 induction l with
 |nil=>cases h
 |cons x r j=>
  simp only[Rows.uptoBulkAll];cases JL.1 h with
  |inl e=>subst e;omega
  |inr e=>have:=j e;omega
theorem vy(l:List (Mp H)):l.length<=Rows.uptoBulkAll l:=by
 induction l with
 |nil=>simp[Rows.uptoBulkAll]
 |cons x r j=>have:=CY x;simp only[Rows.uptoBulkAll,Jz];omega
theorem qA(e s:List (Mp H)):Rows.uptoBulkAll e+1<=Rows.uptoBulk (.slice e s):=by
 simp only[Rows.uptoBulk];omega
theorem vP{α:Type}(n:Nat)(P:Nat->α->Prop)(h:∀i,i<n->∃a,P i a):∃l:List α,l.length=n/\∀i (hi:i<l.length),P i l[i]:=by
 induction n with
 |zero=>exact⟨[],rfl,λi hi=>by simp at hi⟩
 |succ n j=>
  obtain⟨l,t,hp⟩:=j λi hi=>h i O_
  obtain⟨a,D⟩:=h n O_;refine⟨l++[a],by simp[t],λi hi=>?_⟩;rw[List.getElem_append];split
  ·exact hp i _
  have:i=n:=by simp at hi;omega
  subst this;simpa using D
section
variable{H:Type}{enc:TypeId×m_->H}{W:World}
theorem ints_at{n:Nat}{cs:List m_}{x:Mp H×List LL}(h:MQ enc h_ W 0 (λ_=>v_) v_ n 67 cs=c_ x):
  ∃v j,cs=[v]/\j.length+1<=Rows.uptoBulk x.1/\bw W W v (ints j):=by
 rcases open_ints Tryz.underlying67 Lq K_ h with⟨rfl,rfl⟩|⟨a,l,c,j,rfl,_,t,hm,D,rfl,hcell,G⟩
 ·exact⟨_,[],rfl,by simp[Rows.uptoBulk],bw.nil _ _⟩
 refine⟨_,j.take l,rfl,?_,xx t hm (by simpa using D) hcell⟩;have h1:=qA (H:=H) (lits d_ (j.take l)) (lits d_ (j.drop l));have h2:=vy (H:=H) (lits d_ (j.take l));rw[show(lits (H:=H) d_ (j.take l)).length=(j.take l).length by simp[lits]]at h2;simp only;omega
theorem Dd{fs:Array Field}{L:List (Nat×Nat)}(h:fs.toList.map (λf=>(f.type,f.offset))=L)(j t o:Nat)(hj:L[j]?=c_ (t,o)):∃f,fs[j]?=c_ f/\f.type=t/\f.offset=o:=by
 have:=J7 (·[j]?) h;simp only[LR,MF]at this;rw[hj]at this;cases D:fs[j]? with
 |none=>rw[D]at this;cases this
 |some f=>
  rw[D]at this;simp at this;exact⟨f,rfl,this.1,this.2⟩
end
open Go.ChangeShapes Go.WideShapes Go.ChangeAt Go.RowKit Go.Par Go.Lib Go.Shelf Go.Deep Go.Typ Go.Ix
section
variable{H:Type}{enc:TypeId×m_->H}{W:World}{N:Nat}
variable{m n:Nat}{cs:List m_}
theorem lJ{t:Nat}{x:Mp H×List LL}{L:List (Nat×Nat)}(D:(h_.underlying t).map (λd=>match d with| .struct fs=>fs.toList.map (λf=>(f.type,f.offset))|_=>[])=c_ L)(h0:L≠[])(h:MQ enc h_ W 0 (λ_=>v_) v_ m t cs=c_ x):
  ∃(J:Nat) (xs:List (Mp H×List LL)),m=J+1/\x.1=.agg (xs.map (·.1))/\cs.length=h_.cellsOf t/\xs.length=L.length/\∀(j G o:Nat),L[j]?=c_ (G,o)->MQ enc h_ W 0 (λ_=>v_) v_ J G ((cs.drop o).take (h_.cellsOf G))=xs[j]?:=by
 obtain⟨fs,hu,I⟩:∃fs:Array Field,h_.underlying t=c_ (.struct fs)/\fs.toList.map (λf=>(f.type,f.offset))=L:=by
  cases hu:h_.underlying t with
  |none=>rw[hu]at D;cases D
  |some d=>
   rw[hu]at D;cases d<;>simp at D;all_goals first|exact absurd D.symm h0|exact absurd D h0|exact⟨_,rfl,D⟩
 obtain⟨xs,J,rfl,rfl,hlen,K,V⟩:=DataW.trod_struct hu h;refine⟨J,xs,rfl,rfl,hlen,by rw[K,<-I];simp,λj G o hj=>?_⟩;obtain⟨f,M,O,U⟩:=Dd I j G o hj;have:=V j f M;rw[O,U]at this;exact this
theorem pb:∀{ts:List Ty} {ds:List (Mp H)},ts.length=ds.length->(∀i (h1:i<ts.length) (h2:i<ds.length),ts[i].parts<=Rows.uptoBulk ds[i])->aT ts<=Rows.uptoBulkAll ds
 |[],ds,_,_=>by rw[aT];exact Km _
 |t::ts,[],h,_=>by simp at h
 |t::ts,d::ds,h,hp=>by
  rw[aT,Rows.uptoBulkAll];have h0:=hp 0 (by simp) (by simp);have h1:=pb (ts:=ts) (ds:=ds) (by simpa using h) λi h1 h2=>by
   have:=hp (i+1) (by simpa using h1) (by simpa using h2);simpa using this
  simp only[List.getElem_cons_zero]at h0;omega
theorem GR:∀(m:Nat) {cs:List m_} {x:Mp H×List LL},MQ enc h_ W 0 (λ_=>v_) v_ m 61 cs=c_ x->Rows.uptoBulk x.1<=N->
  ∃(T:Ty) (A:Option Addr) (c:Nat),cs=[.int d_ T.kind,.int d_ T.num,.string T.name,a_ A T.args.length c]/\aG (·<W.heap.size) W (cn T.kind T.num T.name A T.args.length c) T/\T.parts<=Rows.uptoBulk x.1/\pY N T:=by
 intro m
 induction m using Nat.strongRecOn with
 |_ m ih=>
  intro cs x h Y;obtain⟨m1,xs,rfl,Z,hlen,ad,get⟩:=lJ (L:=[(3,0),(3,1),(9,2),(59,3)]) K_ (by simp) h;have hC:h_.cellsOf 61=4:=by kernel_rfl
  rw[hC]at hlen;rcases cs with _|⟨c0,_|⟨c1,_|⟨c2,_|⟨c3,_|⟨c4,cs⟩⟩⟩⟩⟩<;>simp at hlen;rcases xs with _|⟨y0,_|⟨y1,_|⟨y2,_|⟨I,_|⟨y4,xs⟩⟩⟩⟩⟩<;>simp at ad;rw[Z]at Y⊢;obtain⟨U,e0,q0,w0⟩:=DataW.trod_int Lq (get 0 3 0 rfl);obtain⟨V,e1,q1,w1⟩:=DataW.trod_int Lq (get 1 3 1 rfl);obtain⟨s2,e2,q2,w2⟩:=DataW.trod_string KH (get 2 9 2 rfl);have h3:=get 3 59 3 rfl;have k1:h_.cellsOf 3=1:=by kernel_rfl
  have k2:h_.cellsOf 9=1:=by kernel_rfl
  have k3:h_.cellsOf 59=1:=by kernel_rfl
  rw[k1]at e0 e1;rw[k2]at e2;rw[k3]at h3;have ba:s2.size+Rows.uptoBulk I.1+4<=Rows.uptoBulk (DataW.agg ([y0,y1,y2,I].map (·.1))):=by
   subst q0 q1 q2;have:s2.size=s2.data.toList.length:=by rw[Ko];rfl
   simp only[Ks,Lf,Rows.uptoBulk,Rows.uptoBulkAll];omega
  simp at e0 e1 e2;subst e0 e1 e2;have hn:s2.size<=9223372036854775807:=by simpa[JT]using w2
  rcases DataW.trod_slice Tryz.underlying59 h3 with⟨D,_⟩|⟨a,len,cap,elems,rest,n,bb,D,hx,hb,hl,ak,J,hi,_⟩
  ·simp at D
   subst D;exact⟨.mk U V s2 [],none,0,rfl,aG.leaf _ W U V s2 none 0 (by simp[JT]) hn,by show 1+0<=Rows.uptoBulk (DataW.agg ([y0,y1,y2,I].map (·.1)));omega,pY.mk O_ λt K=>by simp at K⟩
  simp at D;subst D;rw[hC]at hi;have a2:Rows.uptoBulkAll (elems.map (·.1))+1<=Rows.uptoBulk I.1:=by
   have M:=J7 Prod.fst hx;simp only at M;rw[M,Rows.uptoBulk];omega
  have hT:∀i:Fin len,∃q:Ty×Option Addr×Nat,W.cells? 0 (a.add (i.val*4)) 4=c_ [.int d_ q.1.kind,.int d_ q.1.num,.string q.1.name,a_ q.2.1 q.1.args.length q.2.2]/\
    aG (·<W.heap.size) W (cn q.1.kind q.1.num q.1.name q.2.1 q.1.args.length q.2.2) q.1/\q.1.parts<=Rows.uptoBulk (elems[i.val]'(by rw[J];exact i.isLt)).1/\pY N q.1:=by
   intro⟨i,av⟩;have hi:=hi i av;rw[w_ O_,Option.bind_eq_some_iff]at hi;obtain⟨bd,hc,K⟩:=hi;obtain⟨T,A,c,rfl,hT,hR⟩:=ih n O_ K (by have:=nW (d:=(elems[i]'O_).1) (Kw (f:=λe:Mp H×List LL=>e.1) (JB (l:=elems) (n:=i) O_));omega);exact⟨(T,A,c),hc,hT,hR⟩
  obtain⟨f,X⟩:=Classical.axiomOfChoice hT;refine⟨.mk U V s2 (List.ofFn λi=>(f i).1),c_ a,cap,by simp[Ty.kind,Ty.num,Ty.name,Ty.args],?_,?_⟩
  rotate_left
  ·refine⟨?_,pY.mk O_ λt K=>by
    obtain⟨i,hi,rfl⟩:=J4 K;rw[MI];exact(X _).2.2.2⟩
   have h1:=pb (ts:=List.ofFn λi=>(f i).1) (ds:=elems.map (·.1)) (by simp[J]) (λi h1 h2=>by
    rw[MI,List.getElem_map];exact(X _).2.2.1)
   show 1+aT _<=Rows.uptoBulk (DataW.agg ([y0,y1,y2,I].map (·.1)));omega
  simp only[Ty.kind,Ty.num,Ty.name,Ty.args];have hcell:∀i (h:i<len) j,j<4->W.cell? (a.add (i*4+j))=[Value.int d_ (f ⟨i,h⟩).1.kind,.int d_ (f ⟨i,h⟩).1.num,.string (f ⟨i,h⟩).1.name,a_ (f ⟨i,h⟩).2.1 (f ⟨i,h⟩).1.args.length (f ⟨i,h⟩).2.2][j]?:=by
   intro i h j hj;obtain⟨_,_,a1⟩:=World.cells?_some (X ⟨i,h⟩).1;rw[<-Go.Deep.add_add];exact a1 j hj
  refine aG.mk U V s2 _ (c_ a) cap (λi=>if h:i<len then cn (f ⟨i,h⟩).1.kind (f ⟨i,h⟩).1.num (f ⟨i,h⟩).1.name (f ⟨i,h⟩).2.1 (f ⟨i,h⟩).1.args.length (f ⟨i,h⟩).2.2 else .bool o_) (by simpa using hl) ak hn ?_ ?_
  ·intro h0
   rw[List.length_ofFn]at h0⊢;have O:=hcell 0 h0 0 O_;obtain⟨b,off,spot⟩:=a;have G:spot=none:=by simpa[Mo]using World.cell?_spot O
   subst G;refine⟨b,off,rfl,?_,λi hi j hj=>?_⟩
   ·have:=JY _ _ O
    rw[cS]at this;exact this
   have h:=hcell i hi j hj;rw[cS,<-ME]at h;rw[h,dif_pos hi];rcases j with _|_|_|_|j
   ·rfl
   ·rfl
   ·rfl
   ·rfl
   omega
  intro i hi;simp only[List.length_ofFn]at hi;rw[dif_pos hi,MI];exact(X ⟨i,hi⟩).2.1
theorem Gi{x:Mp H×List LL}(h:MQ enc h_ W 0 (λ_=>v_) v_ m 63 cs=c_ x)(t:Rows.uptoBulk x.1<=N):
  ∃(X:Ex) (A:Option Addr) (c:Nat),cs=[.string X.name,.int d_ X.ty.kind,.int d_ X.ty.num,.string X.ty.name,a_ A X.ty.args.length c]/\fA (·<W.heap.size) W (zW X A c) X/\X.ty.parts<=N/\pY N X.ty/\X.name.size<=N:=by
 obtain⟨V,xs,rfl,D,hlen,G,get⟩:=lJ (L:=[(9,0),(61,1)]) K_ (by simp) h;have hC:h_.cellsOf 63=5:=by kernel_rfl
 have I:h_.cellsOf 61=4:=by kernel_rfl
 have J:h_.cellsOf 9=1:=by kernel_rfl
 rw[hC]at hlen;rcases xs with _|⟨y0,_|⟨Y,_|⟨y2,xs⟩⟩⟩<;>simp at G;obtain⟨c0,ds,rfl⟩:∃a l,cs=a::l:=by
  cases cs with
  |nil=>simp at hlen
  |cons a l=>exact⟨a,l,rfl⟩
 have K:ds.length=4:=by simpa using hlen
 have O:=get 0 9 0 rfl;have M:=get 1 61 1 rfl;rw[J]at O;rw[I]at M;obtain⟨j,U,Z,w0⟩:=DataW.trod_string KH O;have hd:((c0::ds).drop 1).take 4=ds:=by simp[<-K]
 rw[hd]at M;rw[D]at t;have ad:j.size+Rows.uptoBulk Y.1<=N:=by
  subst Z;have:j.size=j.data.toList.length:=by rw[Ko];rfl
  simp only[Ks,Lf,Rows.uptoBulk,Rows.uptoBulkAll]at t;omega
 obtain⟨T,A,c,rfl,hT,hp,hR⟩:=GR V (N:=N) M O_;simp at U;subst U;have hn:j.size<=9223372036854775807:=by simpa[JT]using w0
 exact⟨⟨j,T⟩,A,c,rfl,⟨A,c,rfl,hn,hT⟩,by show T.parts<=N;omega,hR,by show j.size<=N;omega⟩
theorem IT{x:Mp H×List LL}(h3:MQ enc h_ W 0 (λ_=>v_) v_ m 53 cs=c_ x)(hw:Rows.uptoBulk x.1<=N):
  ∃(xs:List Ex) (A:Option Addr) (c:Nat),cs=[a_ A xs.length c]/\bA (·<W.heap.size) W (a_ A xs.length c) xs/\∀x∈xs,x.ty.parts<=N/\pY N x.ty/\x.name.size<=N:=by
 have hC:h_.cellsOf 63=5:=by kernel_rfl
 rcases DataW.trod_slice Tryz.underlying53 h3 with⟨t,_⟩|⟨a,G,Z,elems,rest,n,ad,t,hx,hb,hl,M,ak,hi,_⟩
 ·exact⟨[],none,0,t,bA.nil _ _ _ _ (by simp[JT]),λx hx=>by simp at hx⟩
 subst t;rw[hC]at hi;have O:∀e∈elems,Rows.uptoBulk e.1<=N:=λe he=>by
  have hd:=J7 Prod.fst hx;simp only at hd;rw[hd,Rows.uptoBulk]at hw;have:=nW (Kw (f:=λe:Mp H×List LL=>e.1) he);omega
 have hT:∀i:Fin G,∃q:Ex×Option Addr×Nat,W.cells? 0 (a.add (i.val*5)) 5=c_ [.string q.1.name,.int d_ q.1.ty.kind,.int d_ q.1.ty.num,.string q.1.ty.name,a_ q.2.1 q.1.ty.args.length q.2.2]/\
   fA (·<W.heap.size) W (zW q.1 q.2.1 q.2.2) q.1/\q.1.ty.parts<=N/\pY N q.1.ty/\q.1.name.size<=N:=by
  intro⟨i,U⟩;have hi:=hi i U;rw[w_ O_,Option.bind_eq_some_iff]at hi;obtain⟨av,hc,ht⟩:=hi;obtain⟨X,A,c,rfl,hX,hR⟩:=Gi ht (O _ (JB _));exact⟨(X,A,c),hc,hX,hR⟩
 obtain⟨f,V⟩:=Classical.axiomOfChoice hT;have hcell:∀i (h:i<G) j,j<5->W.cell? (a.add (i*5+j))=[Value.string (f ⟨i,h⟩).1.name,.int d_ (f ⟨i,h⟩).1.ty.kind,.int d_ (f ⟨i,h⟩).1.ty.num,.string (f ⟨i,h⟩).1.ty.name,a_ (f ⟨i,h⟩).2.1 (f ⟨i,h⟩).1.ty.args.length (f ⟨i,h⟩).2.2][j]?:=by
  intro i h j hj;obtain⟨_,_,Y⟩:=World.cells?_some (V ⟨i,h⟩).1;rw[<-Go.Deep.add_add];exact Y j hj
 obtain⟨vs,I⟩:∃vs:Nat->m_,∀i (h:i<G),vs i=zW (f ⟨i,h⟩).1 (f ⟨i,h⟩).2.1 (f ⟨i,h⟩).2.2:=⟨λi=>if h:i<G then zW (f ⟨i,h⟩).1 (f ⟨i,h⟩).2.1 (f ⟨i,h⟩).2.2 else .bool o_,λi h=>dif_pos h⟩;have J:(List.ofFn λi=>(f i).1).length=G:=by simp
 refine⟨List.ofFn λi=>(f i).1,c_ a,Z,by rw[J],⟨c_ a,Z,rfl,by rw[J];exact hl,M,vs,?_,?_⟩,?_⟩
 ·intro h0
  rw[List.length_ofFn]at h0⊢;have K:=hcell 0 h0 0 O_;obtain⟨b,off,spot⟩:=a;have D:spot=none:=by simpa[Mo]using World.cell?_spot K
  subst D;refine⟨b,off,rfl,?_,λi hi j hj=>?_⟩
  ·have:=JY _ _ K
   rw[cS]at this;exact this
  have h:=hcell i hi j hj;rw[cS,<-ME]at h;rw[h,I i hi];rcases j with _|_|_|_|_|j
  ·rfl
  ·rfl
  ·rfl
  ·rfl
  ·rfl
  omega
 ·intro i hi
  simp only[List.length_ofFn]at hi;rw[I i hi,MI];exact(V ⟨i,hi⟩).2.1
 intro x hx;obtain⟨i,hi,rfl⟩:=J4 hx;rw[MI];exact(V _).2.2
theorem GG{x:Mp H×List LL}(h:MQ enc h_ W 0 (λ_=>v_) v_ n 81 cs=c_ x)(D:Rows.uptoBulk x.1<=1048576):∃o:vm,cs=o.cells/\qm W W o:=by
 obtain⟨m1,xs,rfl,G,hlen,j,get⟩:=lJ (L:=[(3,0),(3,1),(55,2),(67,5)]) K_ (by simp) h;have hC:h_.cellsOf 81=6:=by kernel_rfl
 have K:h_.cellsOf 3=1:=by kernel_rfl
 have k2:h_.cellsOf 55=3:=by kernel_rfl
 have k3:h_.cellsOf 67=1:=by kernel_rfl
 rw[hC]at hlen;rcases cs with _|⟨c0,_|⟨c1,_|⟨c2,_|⟨c3,_|⟨c4,_|⟨c5,_|⟨c6,cs⟩⟩⟩⟩⟩⟩⟩<;>simp at hlen;rcases xs with _|⟨y0,_|⟨y1,_|⟨y2,_|⟨y3,_|⟨y4,xs⟩⟩⟩⟩⟩<;>simp at j;rw[G]at D;simp only[Ks,Lf,Rows.uptoBulk,Rows.uptoBulkAll]at D;have M:=get 0 3 0 rfl;have O:=get 1 3 1 rfl;have U:=get 2 55 2 rfl;have V:=get 3 67 5 rfl;rw[K]at M O;rw[k2]at U;rw[k3]at V;obtain⟨n0,X,_,w0⟩:=DataW.trod_int Lq M;obtain⟨Y,Z,_,w1⟩:=DataW.trod_int Lq O;obtain⟨kv,zs,e5,b5,gs⟩:=ints_at (x:=y3) V;obtain⟨m2,xs,rfl,I,-,j,get⟩:=lJ (L:=[(9,0),(3,1),(53,2)]) K_ (by simp) U;have k4:h_.cellsOf 9=1:=by kernel_rfl
 have k5:h_.cellsOf 53=1:=by kernel_rfl
 rcases xs with _|⟨z0,_|⟨z1,_|⟨z2,_|⟨z3,xs⟩⟩⟩⟩<;>simp at j;rw[I]at D;simp only[Ks,Lf,Rows.uptoBulk,Rows.uptoBulkAll]at D;have f0:=get 0 9 0 rfl;have f1:=get 1 3 1 rfl;have f2:=get 2 53 2 rfl;rw[k4]at f0;rw[K]at f1;rw[k5]at f2;obtain⟨t,e2,q2,w2⟩:=DataW.trod_string KH f0;obtain⟨v1,e3,_,_⟩:=DataW.trod_int Lq f1;obtain⟨aI,A,c,e4,hX,J⟩:=IT (N:=1048576) f2 O_;simp at X Z e2 e3 e4 e5;subst X Z e2 e3 e4 e5;have hs:t.size<=1048576:=by
  subst q2;have:t.size=t.data.toList.length:=by rw[Ko];rfl
  simp only[Rows.uptoBulk]at D;omega
 exact⟨⟨n0,Y,⟨t,v1,aI⟩,A,c,c5,zs⟩,rfl,⟨A,c,rfl,by show t.size<=_;omega,hX⟩,gs,by show zs.length<=_;omega,by simp[Lit.wf,IntKind.min,IntKind.max,KQ,KZ]at w1;show Y<=_;omega,
  λx hx=>⟨by have:=(J x hx).1;omega,λy hy=>by have:=(J x hx).2.1 y hy;omega,by have:=(J x hx).2.2;omega⟩,by show t.size<=_;omega⟩
theorem Fb{x:Mp H×List LL}(h:MQ enc h_ W 0 (λ_=>v_) v_ n 77 cs=c_ x)(U:Rows.uptoBulk x.1<=1048576):∃v os,cs=[v]/\fa W W v os:=by
 have hC:h_.cellsOf 81=6:=by kernel_rfl
 rcases open_slice Tryz.underlying77 h with⟨rfl,rfl⟩|⟨a,l,c,m,n',D,Pl,rfl,_,hl,hm,J,rfl,hi⟩
 ·exact⟨_,[],rfl,none,0,rfl,by simp,by simp,by simp,λi hi=>by simp at hi⟩
 simp only[Ml]at J;subst J;rw[hC]at hi;have V:=qA (H:=H) ((MR l).map D) ((MR (m - l)).map λj=>D (l+j));simp only at U;obtain⟨os,K,t⟩:=vP l (λi (o:vm)=>qm W W o/\∀j,j<6->W.cell? (a.add (i*6+j))=o.cells[j]?) (λi M=>by
  obtain⟨X,hc,Y⟩:=hi i O_;have Z:=nW (H:=H) (Lr.2 ⟨i,Mq.2 M,rfl⟩:D i∈(MR l).map D);obtain⟨o,rfl,h2⟩:=GG Y (by simp only;omega);obtain⟨_,_,O⟩:=World.cells?_some hc;refine⟨o,h2,λj hj=>?_⟩;rw[<-Go.Deep.add_add];exact O j hj)
 refine⟨_,os,rfl,c_ a,m,by rw[K],by omega,by simpa[JT]using hm,λo ho=>?_,λi G=>?_⟩
 ·obtain⟨i,G,rfl⟩:=J4 ho
  exact(t i G).1
 have hc:=(t i G).2;have h0:=(t 0 O_).2 0 O_;obtain⟨b,off,spot⟩:=a;have I:spot=none:=by simpa[Mo,vm.cells]using World.cell?_spot h0
 subst I;refine⟨b,off,rfl,?_,λj hj=>?_⟩
 ·have:=JY _ _ h0
  rw[cS]at this;exact this
 rw[<-hc j hj,cS,ME]
end
end Go.Proofs.YtaalbcfpacpgfaaGreat
namespace Go.Proofs.YtaalbcfpacpgfaaGreat.indexSteps
open Go.ChangeShapes Go.WideShapes Go.ChangeAt Go.RowKit Go.Par
open Go.ChangeMaps (open_string shut_string)
theorem lifted(os:Os)(started:os.Started)(H:Type)(enc:TypeId×m_->H)(F:Stop.Interp):
  ReturnsInHanded {} Tryz.checked os 7 .any ((Rows.OpenSpec.upto Rows.indexStepsSpec).pre6 enc h_ Tryz.f7 Rows.indexStepsUptoRow.domain o_) (((Rows.OpenSpec.upto Rows.indexStepsSpec).at F).post enc h_ Tryz.f7 o_ v_ o_ o_):=by
 refine returnsInHanded_of_cond (C:=Tryz.checked) (s:=Rows.OpenSpec.upto Rows.indexStepsSpec) (k:=Rows.uptoSmall) rfl own started K_ Tryz.func7
  (OpenSpec.witness (enc:=enc) (C:=Tryz.checked) (s:=Rows.OpenSpec.upto Rows.indexStepsSpec) (k:=Rows.uptoSmall) rfl o_ ⟨#[],#[.int d_ 0,a_ none 0 0],[]⟩ 8 K_ K_ K_
   (x:=([.lit (.int d_ 0),.nil],[],[])) K_ rfl K_) ?_
 intro W base args ds gs before D X _ hk _;have G:∀(j:Nat) t v,Tryz.f7.params[j]?=c_ t->args[j]?=c_ v->Value.okWide h_ W .any base t v:=D;have M:=X;obtain⟨p,q,J,hV,rfl,av,a1⟩:=X;have Y:DataW.TrodAll enc h_ W 0 (λ_=>v_) v_ Tryz.f7.params.toList args.toList ds p:=J;rw[Tryz.params7]at Y G;obtain⟨v0,a2,d0,ba,p0,q0,O,rfl,rfl,h0,r0⟩:=trodAll_cons Y;obtain⟨v1,bb,d1,bd,p1,q1,rfl,rfl,rfl,h1,r1⟩:=trodAll_cons r0;obtain⟨rfl,rfl,rfl⟩:=trodAll_nil r1;obtain rfl:args=#[v0,v1]:=by cases args;simp_all
 obtain⟨rfl,rfl⟩:=trodVars_none hV;have I:=Kv hk;simp only[La,Rows.uptoBulkAll]at I;obtain⟨a0,rfl,rfl,rfl,Z⟩:=open_int Lq (G 0 3 v0 rfl rfl) h0;have b0:-9223372036854775808<=a0/\a0<=9223372036854775807:=by simpa[Lit.wf,IntKind.min,IntKind.max,KQ,KZ]using Z
 have k1:=h1;have U:∀x∈p1,x.block<W:=by obtain⟨m,hm⟩:=k1;exact DataW.trod_lt m _ _ _ hm
 obtain⟨bf,ad,ak,rfl⟩:=okWide_slice Tryz.underlying77 (G 1 77 v1 rfl rfl);obtain⟨n1,V⟩:=h1;obtain⟨u1,z1,e1,g1⟩:=Fb V (by simp only;omega);simp[Value.cells]at e1;subst e1;clear J D;refine(Go.Proofs.YtaalbcfpacpgfaaGreat.pS a0 b0 _ z1 W g1).mono λe W' ⟨he,K⟩=>?_
 subst he;exact⟨_,rfl,_,_,_,[],_,[],M,trodAll_mk1 (shut_bool Tryz.underlying4 _),(trodAll_cons_mk (shut_int Lq Z) (trodAll_cons_mk (Below.trod laidOut K_ (Kv K_) k1 K U) trodAll_mk0)),rfl,K.frame _,λh=>by cases h⟩
theorem over:Rows.indexStepsUptoRow.holds Tryz.pinned (Rows.OpenSpec.upto Rows.indexStepsSpec):=
 OpenClaim.holds_of_cond 7 Tryz.f7 rfl rfl rfl rfl rfl rfl rfl ⟨rfl,rfl,rfl,rfl,rfl⟩ rfl rfl rfl rfl rfl K_ Tryz.func7 K_
  (Kv K_) (by unfold Func.isWrapper;first|(rw[G_ (by decide+kernel)];kernel_rfl)|(rw[I_ (by decide+kernel)];exact⟨rfl,rfl⟩))
  (λos started H enc _ F=>lifted os started H enc F)
theorem proved:Rows.IndexStepsUptoSaid:=over
#print axioms proved
end Go.Proofs.YtaalbcfpacpgfaaGreat.indexSteps
