import Derived.Laws.BitsAllLaws
import Derived.Laws.BitsLemmas
import Derived.Test.YtaalbcfpacpgfaaGreatZdJE
set_option linter.all false
set_option maxHeartbeats 16000000
set_option maxRecDepth 100000
open Bool renaming false->o_
open Go renaming Value->m_,World->j_
open Go.Value renaming bool->u_
open Option renaming none->b_,some->c_
namespace Go.Proofs.YtaalbcfpacpgfaaGreat
open Go.RowKit Go.Lib Go.Vfs Go.Par Go.Shelf
structure jL(w:j_)(ls:List (List UInt8))(k:Nat)(v:m_)(us:List m_)(wr:j_):Prop extends Rowed w ls k v us wr where
 each:∀i,i<k->Par.Own wr w.heap.size 5 (us.getD i (u_ o_)) (byteCells (ls.getD i []))
 sep:∀i j,i<j->j<k->∀g,(us.getD i (u_ o_)).ownBlock=c_ g->(us.getD j (u_ o_)).ownBlock≠c_ g
 Iz:∀i,i<k->∀g,(us.getD i (u_ o_)).ownBlock=c_ g->v.ownBlock≠c_ g
variable{w wr:j_}{ls ps:List (List UInt8)}{v:m_}{pw:Int}{g:Nat}
theorem jL.zero(t:Below w w wr)(D:Par.Own wr w 24 v []):jL w ls 0 v [] wr:=
 ⟨⟨t,rfl,D,λi hi=>by omega⟩,λi hi=>by omega,λi j _ hj=>by omega,λi hi=>by omega⟩
theorem wL{w':j_}{B:Nat}{e:TypeId}{xs:List m_}(h:Par.Own w B e v xs)(j:∀g,v.ownBlock=c_ g->w'.heap[g]?=w.heap[g]?):Par.Own w' B e v xs:=by
 unfold Par.Own at*;exact aO h j
theorem jL.next{k:Nat}{us:List m_}{G w3:j_}(h:jL w ls k v us wr){u:m_}(Y:Below wr wr G)(hu:Par.Own G wr 5 u (byteCells (ls.getD k [])))
  {v':m_} (o:Obj) (V:Par.Own w3 w 24 v' (us++[u])) (Z:(G.alloc o).grownBy w3 v.ownBlock) (I:v'.ownBlock=v.ownBlock\/v'.ownBlock=c_ (G.heap.size+1)):jL w ls (k+1) v' (us++[u]) w3:=by
 have hn:=h.toRowed.next Y hu o V Z I;have hz:=h.below.size;have ad:=Y.size;have ak:(G.alloc o).heap.size=G.heap.size+1:=by simp
 have lo:∀i,i<k->(us++[u]).getD i (u_ o_)=us.getD i (u_ o_):=λi hi=>by simp[s_,Kx,h.len,hi]
 have J:(us++[u]).getD k (u_ o_)=u:=by simp[s_,Kx,h.len]
 have K:∀i,i<k->∀g,(us.getD i (u_ o_)).ownBlock=c_ g->w.heap.size<=g/\g<wr.heap.size:=λi hi g e=>(h.each i hi).lt g e
 have M:∀g,u.ownBlock=c_ g->wr.heap.size<=g/\g<G.heap.size:=λg e=>hu.lt g e
 have hv:∀g,v.ownBlock=c_ g->g<wr.heap.size:=λg e=>(h.own.lt g e).2
 refine⟨hn,λi hi=>?_,λi j O hj g e=>?_,λi hi g e=>?_⟩
 ·by_cases t:i<k
  ·rw[lo i t]
   refine wL (h.each i t) λg e=>?_
   have:=K i t g e;rw[Z.block g O_ (λD=>h.Iz i t g e D.symm),z_ _ _ _ O_,Y.block g this.2]
  have:i=k:=by omega
  subst this;rw[J];refine wL (hu.base hz) λg e=>?_
  have:=M g e;rw[Z.block g O_ (λD=>by have:=hv g D.symm;omega),z_ _ _ _ O_]
 ·by_cases X:j<k
  ·rw[lo i O_]at e
   rw[lo j X];exact h.sep i j O X g e
  have:j=k:=by omega
  subst this;rw[lo i O]at e;rw[J];intro D;have:=K i O g e;have:=M g D;omega
 by_cases t:i<k
 ·rw[lo i t]at e
  rcases I with U|U
  ·rw[U];exact h.Iz i t g e
  rw[U];intro D;injection D with D;have:=K i t g e;omega
 have:i=k:=by omega
 subst this;rw[J]at e;have:=M g e;rcases I with U|U
 ·rw[U];intro D;have:=hv g D;omega
 rw[U];intro D;injection D with D;omega
theorem jd(v:m_)(ls:List (List UInt8))(B:Nat)(w:j_)(bn:al (·<B) w v ls)(hB:B<=w)(hl:ls.length<=1048576)(a2:∀l∈ls,l.length<=1000000):
  Calls Tryz.prog 101 #[v] w λe w'=>∃u us,e=.returned u/\jL w ls ls.length u us w':=by
 obtain⟨vs,ba,⟨A,c,rfl,hc,hm,bb⟩,D⟩:=bn;have bO:c<=9223372036854775807:=by simpa[maxLen]using hm
 have bo:=Z_ bb;clear bb;have HR:=Z_ D;clear D;have K:=Z_ ba;clear ba;have bp:=Z_ a2;clear a2;have Y:=Par.Own.new w w 24 #[] [] rfl L_ (by simp);have bd:Below w w (w.alloc (.cells #[] 24)):=(JG _ w).alloc L_ _;have H0:Hid (jL w ls 0 _ [] _):=Z_ (jL.zero bd Y);clear Y bd;go_enter Tryz.func101,Tryz.ntmps101;go_wp2
 go_loopw [3,4] (λs i wr=>∃(k:Nat) (us:List m_),k<=vs.length/\i=.int .i64 k/\Hid (jL w ls k s us wr)) (λ_ i _=>vs.length - (intOf i).toNat)
 case atStart=>exact⟨0,[],by omega,rfl,H0⟩
 obtain⟨k,us,hk,rfl,j⟩:=hrel;obtain⟨As,cs,G⟩:=j.o.own.form;rw[j.o.len]at G;subst G;by_cases M:k<vs.length
 ·obtain⟨b,off,rfl,hb,hcell⟩:=bo.o O_
  have bR:wr.cell? ⟨b,off+k,b_⟩=c_ (vs.getD k (u_ o_)):=by
   rw[j.o.below.cell (p:=⟨b,off+k,b_⟩) (by show b<_;omega),hcell k M,s_,w_ M];rfl
  have bf:bw wr B (vs.getD k (u_ o_)) (byteCells (ls.getD k [])):=bw.below (B:=B) (HR.o k (by rw[<-K.o];exact M)) (j.o.below.mono hB);have t:k<ls.length:=by rw[<-K.o];exact M
  have hL:(ls.getD k []).length<=1000000:=by
   rw[s_,w_ t];exact bp.o _ (JB t)
  generalize bg:ls.getD k []=L at*;have bt:=Z_ bg;have a1:=Z_ bf;clear bf hcell bg;obtain⟨Au,cu,bx,-⟩:=a1.o;have hz:=j.o.below.size;generalize vs.getD k (u_ o_)=u at*;subst bx;go_wp2_with fail;refine(cY _ L B wr a1.o O_ hL).mono ?_;rintro e w2 ⟨u2,rfl,O,U⟩;have I:=(j.o.own.below U).alloc (.cells #[u2] 24);have Z:=eB (Own.jf O (F:=λ_=>False) (λ_ h=>h.elim));have ad:=bw.new w2 24 #[u2] [u2] rfl (by simp[maxLen]);obtain⟨A2,c2,V⟩:=O.form;have bj:=Z_ O;have bk:=Z_ U;have b0:=U.size;have hlen:=j.o.len;have bN:=Z_ hlen;clear O U a1;subst V;go_wp2_with (at_builtin;refine aE _ rfl _ _ _ rfl w 24 _ j8 _ _ rfl I _ _ _ rfl ad (λx hx=>by simp at hx;subst hx;exact Z) ?c1 ?c2 ?_)
  case c1=>simp;omega
  case c2=>simp;omega
  intro v3 w3 J bm ak;have HN:=Z_ (j.o.next bk.o (by rw[bt.o];exact bj.o) _ J bm ak);clear J bm ak;obtain⟨A3,c3,X⟩:=HN.o.own.form;subst X;clear bj bk I Z ad;go_wp2;go_roundw
  case rel=>exact⟨k+1,_,by omega,by go_num,HN⟩
  simp[intOf];omega
 have t:k=vs.length:=by omega
 have bB:=Z_ t;clear t;go_wp2;go_ret;have t:=bB.o;have av:=j.o;rw[t,K.o]at av;exact⟨_,us,by rw[t,K.o];rfl,av⟩
theorem mU(keeps:List Int)(s:List UInt8):∀(l:List af) (i:Nat),aj af.name s l=b_->aj af.name s (cN keeps i l)=b_
 |[],i,h=>rfl
 |g::l,i,h=>by
  rw[ca]at h;rw[cN,ca];split at h
  ·cases h
  rename_i j
  rw[I_ (by exact j)];exact mU keeps s l (i+1) h
theorem V3.qJ{fs:List af}{nx bs lg:Option af}(h:V3 fs nx bs lg)(keeps:List Int):∃i j k,V3 (cN keeps 0 fs) (nx.map (eZ keeps i)) (bs.map (eZ keeps j)) (lg.map (eZ keeps k)):=by
 have one:∀(s:List UInt8) (o:Option af),aj af.name s fs=o->∃i,aj af.name s (cN keeps 0 fs)=o.map (eZ keeps i):=λs o t=>by
  cases o with
  |none=>exact⟨0,mU keeps s fs 0 t⟩
  |some f=>
   obtain⟨j,hj⟩:=oP keeps s fs 0 f t;exact⟨j,hj⟩
 obtain⟨i,hi⟩:=one _ _ h.nx;obtain⟨j,hj⟩:=one _ _ h.bs;obtain⟨k,D⟩:=one _ _ h.lg;exact⟨i,j,k,hi,hj,D⟩
theorem ue(keeps:List Int)(k:Nat)(s b:List UInt8):eZ keeps k ⟨s,b,b.length⟩=⟨s,b,b.length⟩:=by
 unfold eZ mi;simp
theorem V3.I2{fs:List af}{bs lg:Option af}(h:V3 fs b_ bs lg)(t:tY bs=c_ (g,ps))(j:iy lg g=o_):aW ⟨pw,fs⟩=(⟨pw,fs⟩,.ok (g,ps,dI lg g)):=by
 have D:cw ⟨pw,fs⟩=c_ (g,ps):=by unfold cw;simp only[h.bs];exact t
 have G:cO ⟨pw,fs⟩ g=dI lg g:=by unfold cO dI;simp only[h.lg];try rfl
 have I:bX ⟨pw,fs⟩ g=(⟨pw,fs⟩,0):=by
  unfold bX;simp only[h.lg];cases lg with
  |none=>rfl
  |some f=>
   simp only[iy,Mr]at j;simp only[I_ j]
 unfold aW;simp only[h.II,D,G_,G,I]
theorem V3.I4{fs:List af}{bs lg:Option af}(h:V3 fs b_ bs lg)(t:tY bs=c_ (g,ps))(j:iy lg g=true):aW ⟨0,fs⟩=(⟨0,fs⟩,.error 13):=by
 have D:cw ⟨0,fs⟩=c_ (g,ps):=by unfold cw;simp only[h.bs];exact t
 have G:bX ⟨0,fs⟩ g=(⟨0,fs⟩,13):=by
  unfold bX;simp only[h.lg];cases lg with
  |none=>simp[iy]at j
  |some f=>
   simp only[iy,LQ]at j;obtain⟨I,e,-⟩:=h.Em (pw:=0) rfl (Nat.le_of_lt j);simp only[G_ j];rw[e,uh]
 unfold aW;simp only[h.II,D,G_,G];simp
theorem V3.I3{fs:List af}{bs lg:Option af}(h:V3 fs b_ bs lg)(hp:pw≠0)(D:tY bs=c_ (g,ps))(t:iy lg g=true):∃j,aW ⟨pw,fs⟩=(⟨dec pw,j⟩,.ok (g,ps,dI lg g))/\V3 j b_ bs (rq lg g):=by
 have G:cw ⟨pw,fs⟩=c_ (g,ps):=by unfold cw;simp only[h.bs];exact D
 have I:cO ⟨pw,fs⟩ g=dI lg g:=by unfold cO dI;simp only[h.lg];try rfl
 cases lg with
 |none=>simp[iy]at t
 |some f=>
  simp only[iy,LQ]at t;obtain⟨j,e,h2⟩:=h.Em (pw:=pw) rfl (Nat.le_of_lt t);have J:bX ⟨pw,fs⟩ g=(⟨dec pw,j⟩,0):=by
   unfold bX;simp only[h.lg,G_ t];rw[e,zQ hp]
  unfold aW;simp only[h.II,G,G_,I,J];exact⟨j,rfl,by unfold rq;simp only[G_ t];exact h2⟩
def tR(g:Nat)(log:List (List UInt8))(s:Nat)(lg:Option af):Prop:=(lg=b_/\log=[])\/lg=c_ ⟨aK,bE g log,s⟩
